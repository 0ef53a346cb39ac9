/- What the functions that the statement reaches do: their contracts; and what follows of it. -/
import Derived.Test.YtaepkklbckgbhaaDoorSProgWords4
import Derived.Test.YtaepkklbckgbhaaDoorK4
/- The program's reader of codes. -/
namespace Go.Proofs
open Go Go.RowKit Go.Am

theorem CallP.wkr {f : FuncId} {args : List AV} {h : H} {K K' : AV → H → Prop} (hc : CallP Tryd.prog f args h K) (hk : ∀ r h1, K r h1 → K' (wk r) h1) : CallP Tryd.prog f args h K' :=
  hc.gh fun r h1 q => ⟨h1, wk r, .weak (fun w g V hv => hv.wk) (.refl _ _), hk r h1 q⟩

/-- A reader's state: the words that are left; none: it isn't right. -/
abbrev RS := Option (List Nat)
def encRS : RS → List AV
  | some l => [encW l, .bool false]
  | none => [.any1, .bool true]
def Bd (s : RS) : Prop := ∀ l, s = some l → l.length ≤ 1000000 ∧ ∀ w ∈ l, w < 18446744073709551616
structure RIs (h : H) (b : Nat) (s : RS) : Prop where
  blt : b < h.bn
  bx : h.bx b = some (encRS s)
  bd : Bd s
structure RTo (h : H) (b : Nat) (h' : H) (s' : RS) : Prop where
  keep : HF h h' (· = b) (fun _ => False)
  is : RIs h' b s'
/-- Where a piece of reading ends. -/
def RFin (h : H) (b : Nat) (h' : H) (s' : RS) : Prop := HF h h' (· = b) (fun _ => False) ∧ ∃ cs1, h'.bx b = some cs1 ∧ WkL cs1 (encRS s')
theorem RTo.fin {h h' : H} {b : Nat} {s' : RS} (a : RTo h b h' s') : RFin h b h' s' := ⟨a.keep, _, a.is.bx, WkL.refl _⟩
theorem RFin.bad {h h' : H} {b : Nat} {v : AV} (a : HF h h' (· = b) (fun _ => False)) (hb : h'.bx b = some [v, .bool true]) : RFin h b h' none := ⟨a, _, hb, .cons (.any v) (.cons (.refl _) .nil)⟩
theorem RFin.set {h h' : H} {b : Nat} {v : AV} (a : HF h h' (· = b) (fun _ => False)) : RFin h b (h'.set b [v, .bool true]) none := RFin.bad (v := v) (a.trans (HF.set _ rfl)) (by simp)
theorem RFin.ok {h h' : H} {b : Nat} {cs : List AV} {s : RS} (a : HF h h' (· = b) (fun _ => False)) (e : cs = encRS s) : RFin h b (h'.set b cs) s := by
  subst e
  exact ⟨a.trans (HF.set _ rfl), _, by simp, WkL.refl _⟩
theorem pure_encRS : ∀ (s : RS), ∀ v ∈ encRS s, PureV v
  | some l => pures_cons (pure_w64 l) (pures1 (.bool _))
  | none => pures_cons .any1 (pures1 (.bool _))
theorem RTo.trans {h h1 h2 : H} {b : Nat} {s1 s2 : RS} (a : RTo h b h1 s1) (c : RTo h1 b h2 s2) : RTo h b h2 s2 := ⟨a.keep.trans c.keep, c.is⟩
theorem RTo.refl {h : H} {b : Nat} {s : RS} (a : RIs h b s) : RTo h b h s := ⟨HF.refl _ _ _, a⟩
theorem RTo.set {h : H} {b : Nat} {s s' : RS} (a : RIs h b s) (hb : Bd s') : RTo h b (h.set b (encRS s')) s' := ⟨HF.set _ rfl, by simpa using a.blt, by simp, hb⟩
theorem RIs.alloc {h : H} {b : Nat} {s : RS} (a : RIs h b s) (cs : List AV) : RIs (h.alloc cs) b s := by
  have h1 := a.blt
  have hne : b ≠ h.bn := by omega
  exact ⟨by simp; omega, by simpa [hne] using a.bx, a.bd⟩
theorem RTo.alloc {h h' : H} {b : Nat} {s : RS} {cs : List AV} (a : RTo (h.alloc cs) b h' s) : RTo h b h' s := ⟨(HF.alloc h cs _ _).trans a.keep, a.is⟩
theorem RIs.keep {h h' : H} {b : Nat} {s : RS} (a : RIs h b s) {B T : Nat → Prop} (e : HF h h' B T) (hb : ¬ B b) : RIs h' b s :=
  ⟨Nat.lt_of_lt_of_le a.blt e.bn, (e.bx b a.blt hb).trans a.bx, a.bd⟩

/-- What a piece of reading made of a state. -/
def Got {α : Type} (p : Rd α) (s : RS) (a : α) (s' : RS) : Prop :=
  match s.bind p with
  | some (a', l') => a = a' ∧ s' = some l'
  | none => s' = none
def Rd.bind {α β : Type} (p : Rd α) (q : α → Rd β) : Rd β := fun l => (p l).bind fun x => q x.1 x.2
def Rd.pure {α : Type} (a : α) : Rd α := fun l => some (a, l)
theorem Got.bind {α β : Type} {p : Rd α} {q : α → Rd β} {s s1 s2 : RS} {a : α} {b : β} (h1 : Got p s a s1) (h2 : Got (q a) s1 b s2) : Got (p.bind q) s b s2 := by
  unfold Got at h1 h2 ⊢
  cases s with
  | none => simp only [Option.bind_none] at h1 ⊢; subst h1; simpa using h2
  | some l =>
    simp only [Option.bind_some, Rd.bind] at h1 ⊢
    cases hp : p l with
    | none => rw [hp] at h1; simp only at h1; subst h1; simpa using h2
    | some x => rw [hp] at h1; simp only at h1; obtain ⟨rfl, rfl⟩ := h1; simpa using h2
theorem Got.pure {α : Type} (a : α) (s : RS) : Got (Rd.pure a) s a s := by cases s <;> simp [Got, Rd.pure]
theorem Got.map {α β : Type} {p : Rd α} {f : α → β} {s s1 : RS} {a : α} (h1 : Got p s a s1) : Got (fun l => (p l).map fun x => (f x.1, x.2)) s (f a) s1 := by
  unfold Got at h1 ⊢
  cases s with
  | none => simpa using h1
  | some l =>
    simp only [Option.bind_some] at h1 ⊢
    cases hp : p l with
    | none => rw [hp] at h1; simpa using h1
    | some x => rw [hp] at h1; obtain ⟨rfl, rfl⟩ := h1; simp
/-- A piece that is read; else d. -/
def runS {α : Type} (p : Rd α) (d : α) (s : RS) : α × RS := (s.bind p).elim (d, none) fun x => (x.1, some x.2)
theorem Got.runS {α : Type} (p : Rd α) (d : α) (s : RS) : Got p s (Proofs.runS p d s).1 (Proofs.runS p d s).2 := by
  unfold Got Proofs.runS
  cases s.bind p <;> simp

theorem newReader_ok (l : List Nat) (h : H) : SCall Tryd.prog 8 [encW l] h (.ptr h.bn 0) (h.alloc (encRS (some l))) := by
  refine SCall.new (CallP.run hb8 ok8 (by simp) ?_) (pure_encRS _)
  simp -implicitDefEqProofs
  exact ⟨HF.alloc _ _ _ _, WkL.refl _⟩

theorem RIs.new {l : List Nat} (hl : Bd (some l)) (h : H) : RIs (h.alloc (encRS (some l))) h.bn (some l) := ⟨by simp, by simp, hl⟩

theorem rOk_ok {h : H} {b : Nat} {s : RS} (hr : RIs h b s) : SCall Tryd.prog 12 [.ptr b 0] h (.bool s.isSome) h := by
  refine SCall.ro (CallP.run hb12 ok12 (by simp) ?_) (.bool _)
  have h1 := hr.blt
  have h2 := hr.bx
  cases s <;> (simp -implicitDefEqProofs [h1, h2, encRS]; exact HF.refl _ _ _)

def endS : RS → Bool
  | some [] => true
  | _ => false

theorem rEnd_ok {h : H} {b : Nat} {s : RS} (hr : RIs h b s) : SCall Tryd.prog 13 [.ptr b 0] h (.bool (endS s)) h := by
  refine SCall.ro (CallP.run hb13 ok13 (by simp) ?_) (.bool _)
  have h1 := hr.blt
  have h2 := hr.bx
  cases s with
  | none => simp -implicitDefEqProofs [h1, h2, encRS, endS]; exact HF.refl _ _ _
  | some l =>
    cases l with
    | nil => simp -implicitDefEqProofs [h1, h2, encRS, endS]; exact HF.refl _ _ _
    | cons w l =>
      have : ¬ (l.length : Int) + 1 = 0 := by omega
      simp -implicitDefEqProofs [h1, h2, encRS, endS, this]; exact HF.refl _ _ _

/-- A piece of reading: its value, and what is left; where it isn't right, d. -/
structure RdS {α : Type} (f : FuncId) (args : List AV) (h : H) (b : Nat) (s : RS) (p : Rd α) (d : α) (enc : α → AV) : Prop where
  call : SCall Tryd.prog f args h (enc (runS p d s).1) (h.set b (encRS (runS p d s).2))
  to : RTo h b (h.set b (encRS (runS p d s).2)) (runS p d s).2

/-- What is left is of what there was. -/
def RdOK {α : Type} (p : Rd α) : Prop := ∀ l a l', p l = some (a, l') → l'.length ≤ l.length ∧ ∀ w ∈ l', w ∈ l
theorem RdOK.bd {α : Type} {p : Rd α} (hp : RdOK p) (d : α) {s : RS} (hs : Bd s) : Bd (runS p d s).2 := fun l' e => by
  unfold runS at e
  cases s with
  | none => simp at e
  | some l =>
    cases hq : p l with
    | none => simp [hq] at e
    | some x =>
      simp [hq] at e; subst e
      obtain ⟨h1, h2⟩ := hs l rfl
      obtain ⟨h3, h4⟩ := hp l x.1 x.2 hq
      exact ⟨Nat.le_trans h3 h1, fun w hw => h2 w (h4 w hw)⟩
theorem RdOK.bind {α β : Type} {p : Rd α} {q : α → Rd β} (hp : RdOK p) (hq : ∀ a, RdOK (q a)) : RdOK (p.bind q) := fun l b l' e => by
  simp only [Rd.bind, Option.bind_eq_some_iff] at e
  obtain ⟨x, e1, e2⟩ := e
  obtain ⟨h1, h2⟩ := hp l x.1 x.2 e1
  obtain ⟨h3, h4⟩ := hq x.1 x.2 b l' e2
  exact ⟨Nat.le_trans h3 h1, fun w hw => h2 w (h4 w hw)⟩
theorem RdOK.pure {α : Type} (a : α) : RdOK (Rd.pure a) := fun l b l' e => by
  simp only [Rd.pure, Option.some.injEq, Prod.mk.injEq] at e
  rw [e.2]; exact ⟨Nat.le_refl _, fun w hw => hw⟩

theorem RdS.mk' {α : Type} {f : FuncId} {args : List AV} {h : H} {b : Nat} {s : RS} {p : Rd α} {d : α} {enc : α → AV} (hr : RIs h b s) (hp : RdOK p) (hv : ∀ a, PureV (enc a)) (hc : CallP Tryd.prog f args h fun r h1 => wk r = enc (runS p d s).1 ∧ RFin h b h1 (runS p d s).2) : RdS f args h b s p d enc :=
  ⟨SCall.upd hr.blt (hc.mono fun r h1 ⟨q1, q2, q3⟩ => ⟨q1, q2, q3⟩) (hv _) (pure_encRS _), RTo.set hr (hp.bd d hr.bd)⟩

def rdNext (p : Nat → Bool) : Rd Nat
  | [] => none
  | w :: l => if p w = true then some (w, l) else none
theorem rdNext_ok (p : Nat → Bool) : RdOK (rdNext p) := fun l a l' e => by
  cases l with
  | nil => simp [rdNext] at e
  | cons v l =>
    simp only [rdNext] at e
    split at e
    · cases e; exact ⟨by simp, fun w hw => List.mem_cons_of_mem _ hw⟩
    · cases e

theorem next_ok {h : H} {b : Nat} {s : RS} (hr : RIs h b s) {F : FuncId} {first caps : List AV} {p : Nat → Bool} (hw : first.map wk = first) (hw' : caps.map wk = caps) (hp : ∀ w : Nat, SCall Tryd.prog F (first ++ [.int .u64 w] ++ caps) h (.bool (p w)) h) :
    RdS 51 [.ptr b 0, .fn F first caps] h b s (rdNext p) 0 (fun n => .int .u64 n) := by
  refine RdS.mk' hr (rdNext_ok p) (fun _ => .int _ _) (CallP.run hb51 ok51 (by simp) ?_)
  have h1 := hr.blt
  have h2 := hr.bx
  cases s with
  | none =>
    simp -implicitDefEqProofs [h1, h2, runS, encRS]
    exact RFin.set (HF.refl _ _ _)
  | some l =>
    cases l with
    | nil =>
      simp -implicitDefEqProofs [h1, h2, runS, rdNext, encRS]
      exact RFin.set (HF.refl _ _ _)
    | cons w l =>
      have e0 : ¬ (l.length : Int) + 1 = 0 := by omega
      simp -implicitDefEqProofs [h1, h2, e0, w64, encRS]
      refine callQ_s (hp w) (by simp [hw, hw']) ?_
      cases hpw : p w
      · simp -implicitDefEqProofs [h1, h2, hpw, runS, rdNext, w64, encRS]
        exact RFin.set (HF.refl _ _ _)
      · have e1 : (0 : Int) ≤ (l.length : Int) + 1 := by omega
        have e2 : (1 : Int) ≤ (l.length : Int) + 1 := by omega
        simp -implicitDefEqProofs [h1, h2, hpw, runS, rdNext, w64, e2, bndOf, encRS]
        exact RFin.ok (HF.refl _ _ _) rfl

theorem runS_next {p : Nat → Bool} {α : Type} {q : Rd α} {d : α} {f : Nat → α} (hd : d = f 0) (hq : ∀ l, q l = (rdNext p l).map fun x => (f x.1, x.2)) (s : RS) : runS q d s = (f (runS (rdNext p) 0 s).1, (runS (rdNext p) 0 s).2) := by
  unfold runS
  cases s with
  | none => simp [hd]
  | some l =>
    simp only [Option.bind_some, hq]
    cases rdNext p l <;> simp [hd]
theorem rdCount_next (most : Int) (l : List Nat) : rdCount most l = (rdNext (fun w => decide (0 ≤ most ∧ (w : Int) ≤ most)) l).map fun x => ((x.1 : Int), x.2) := by
  cases l with
  | nil => rfl
  | cons w l => simp only [rdCount, rdNext, decide_eq_true_eq]; split <;> rfl
theorem rdSigned_next (l : List Nat) : rdSigned l = (rdNext (fun _ => true) l).map fun x => (backI x.1, x.2) := by
  cases l <;> rfl

theorem runS_next_lt {p : Nat → Bool} {s : RS} (h : Bd s) : (runS (rdNext p) 0 s).1 < 18446744073709551616 := by
  unfold runS
  cases s with
  | none => simp
  | some l =>
    cases l with
    | nil => simp [rdNext]
    | cons w l =>
      simp only [Option.bind_some, rdNext]
      split
      · exact (h _ rfl).2 w (List.mem_cons_self ..)
      · simp

theorem count1_ok {h : H} {c : Nat} {most : Int} (hc : c < h.bn) (hb : h.bx c = some [.int .i64 most]) (hm : inI most) (w : Nat) : SCall Tryd.prog 52 [.int .u64 w, .ptr c 0] h (.bool (decide (0 ≤ most ∧ (w : Int) ≤ most))) h := by
  refine SCall.ro (CallP.run hb52 ok52 (by simp) ?_) (.bool _)
  obtain ⟨m1, m2⟩ := hm
  by_cases h0 : 0 ≤ most
  · simp -implicitDefEqProofs [hc, hb, h0, wrap_u64 (x := most) (by omega) (by omega)]
    exact HF.refl _ _ _
  · simp -implicitDefEqProofs [hc, hb, h0]
    exact HF.refl _ _ _

theorem rdMap_ok {α β : Type} {p : Rd α} {q : Rd β} {f : α → β} (hp : RdOK p) (hq : ∀ l, q l = (p l).map fun x => (f x.1, x.2)) : RdOK q := fun l b l' e => by
  rw [hq, Option.map_eq_some_iff] at e
  obtain ⟨x, e1, e2⟩ := e
  cases e2
  exact hp l x.1 x.2 e1
theorem rdCount_ok (most : Int) : RdOK (rdCount most) := rdMap_ok (rdNext_ok _) (rdCount_next most)
theorem rdSigned_ok : RdOK rdSigned := rdMap_ok (rdNext_ok _) rdSigned_next
theorem rdFlag_ok : RdOK rdFlag := rdMap_ok (f := fun n : Int => decide (n = 1)) (rdCount_ok 1) fun _ => rfl
theorem rdTake_ok (n : Nat) : RdOK (rdTake n) := fun l b l' e => by
  simp only [rdTake] at e
  split at e
  · cases e; exact ⟨by simp, fun w hw => List.mem_of_mem_drop hw⟩
  · cases e
theorem rdWords_ok (most : Int) : RdOK (rdWords most) := RdOK.bind (rdCount_ok most) fun _ => rdTake_ok _
theorem rdText_bind : rdText = (rdCount 64).bind fun n => (rdTake ((n.toNat + 7) / 8)).bind fun ws => fun l => if packed (unpack n.toNat ws) = ws then some (unpack n.toNat ws, l) else none := rfl
theorem rdText_ok : RdOK rdText := by
  rw [rdText_bind]
  refine RdOK.bind (rdCount_ok 64) fun n => RdOK.bind (rdTake_ok _) fun ws => fun l b l' e => ?_
  split at e
  · cases e; exact ⟨Nat.le_refl _, fun w hw => hw⟩
  · cases e

theorem rdCount_in {most : Int} (hm : inI most) (s : RS) : 0 ≤ (runS (rdCount most) 0 s).1 ∧ ((runS (rdCount most) 0 s).1 ≤ most ∨ (runS (rdCount most) 0 s).1 = 0) := by
  unfold runS
  cases s with
  | none => simp
  | some l =>
    cases l with
    | nil => simp [rdCount]
    | cons w l =>
      simp only [Option.bind_some, rdCount]
      split
      · simp only [Option.elim]; omega
      · simp

theorem count_rd {h : H} {b : Nat} {s : RS} (hr : RIs h b s) {most : Int} (hm : inI most) : RdS 27 [.ptr b 0, .int .i64 most] h b s (rdCount most) 0 (.int .i64) := by
  refine RdS.mk' hr (rdCount_ok most) (fun _ => .int _ _) (CallP.run hb27 ok27 (by simp) ?_)
  simp -implicitDefEqProofs
  have hn := next_ok (hr.alloc [.int .i64 most]) (F := 52) (first := []) (caps := [.ptr h.bn 0]) rfl (by simp) fun w => count1_ok (by simp) (by simp) hm w
  refine callQ_s hn.call (by simp) ?_
  have q := hn.to
  have hx := runS_next (p := fun w => decide (0 ≤ most ∧ (w : Int) ≤ most)) (q := rdCount most) (d := 0) (f := fun w => (w : Int)) rfl (rdCount_next most) s
  have hin := rdCount_in hm s
  obtain ⟨m1, m2⟩ := hm
  rw [hx] at hin ⊢
  simp only at hin ⊢
  generalize runS (rdNext fun w => decide (0 ≤ most ∧ (w : Int) ≤ most)) 0 s = x at q hin
  simp -implicitDefEqProofs [wrap_i64 (x := (x.1 : Int)) (by omega) (by omega)]
  exact q.alloc.fin

theorem signed1_ok (w : Nat) (h : H) : SCall Tryd.prog 53 [.int .u64 w] h (.bool true) h := by
  refine SCall.ro (CallP.run hb53 ok53 (by simp) ?_) (.bool _)
  simp -implicitDefEqProofs
  exact HF.refl _ _ _

theorem back_bits {w : Nat} (hw : w < 18446744073709551616) : IntKind.i64.wrap
        ((((IntKind.i64.wrap ((w : Int).fdiv (2 ^ shAmt IntKind.u64 1)) % 2 ^ IntKind.i64.bits).toNat ^^^
            (IntKind.i64.wrap
                  (-IntKind.i64.wrap (IntKind.u64.wrap ((w % 2 ^ IntKind.u64.bits &&& 1 % 2 ^ IntKind.u64.bits : Nat) : Int))) %
                2 ^ IntKind.i64.bits).toNat : Nat)) : Int) =
      backI w := by
  have e1 : (2 : Int) ^ shAmt IntKind.u64 1 = 2 := rfl
  have e3 : (2 : Int) ^ IntKind.i64.bits = 18446744073709551616 := rfl
  have e4 : (2 : Nat) ^ IntKind.u64.bits = 18446744073709551616 := rfl
  have wi : ∀ y : Int, IntKind.i64.wrap y = (if 9223372036854775808 ≤ y % 18446744073709551616 then y % 18446744073709551616 - 18446744073709551616 else y % 18446744073709551616) := fun y => by simp [IntKind.wrap, IntKind.bits, IntKind.signed]
  rw [e1, e3, e4, Nat.mod_eq_of_lt hw, show 1 % 18446744073709551616 = 1 from rfl, Nat.and_one_is_mod, Int.fdiv_eq_ediv_of_nonneg _ (by omega), wrap_i64 (x := (w : Int) / 2) (by omega) (by omega), wrap_u64 (by omega) (by omega), wrap_i64 (x := ((w % 2 : Nat) : Int)) (by omega) (by omega), wrap_i64 (x := -((w % 2 : Nat) : Int)) (by omega) (by omega)]
  have e5 : ((w : Int) / 2 % 18446744073709551616).toNat = w / 2 := by omega
  rw [e5]
  unfold backI
  rcases Nat.mod_two_eq_zero_or_one w with h | h
  · rw [h, if_pos rfl]
    have e6 : (-((0 : Nat) : Int) % 18446744073709551616).toNat = 0 := by decide
    rw [e6, Nat.xor_zero]
    exact wrap_i64 (by omega) (by omega)
  · rw [h, if_neg (by omega)]
    have e6 : (-((1 : Nat) : Int) % 18446744073709551616).toNat = 18446744073709551615 := by decide
    rw [e6, xor_ones _ (by omega), wi]
    split <;> omega

theorem signed_rd {h : H} {b : Nat} {s : RS} (hr : RIs h b s) : RdS 29 [.ptr b 0] h b s rdSigned 0 (.int .i64) := by
  refine RdS.mk' hr rdSigned_ok (fun _ => .int _ _) (CallP.run hb29 ok29 (by simp) ?_)
  simp -implicitDefEqProofs
  have hn := next_ok hr (F := 53) (first := []) (caps := []) rfl rfl fun w => signed1_ok w h
  refine callQ_s hn.call (by simp) ?_
  have q := hn.to
  have hx := runS_next (p := fun _ => true) (q := rdSigned) (d := 0) (f := backI) rfl rdSigned_next s
  have hlt := runS_next_lt (p := fun _ => true) hr.bd
  rw [hx]
  generalize runS (rdNext fun _ => true) 0 s = x at q hlt
  simp -implicitDefEqProofs
  exact ⟨back_bits hlt, q.fin⟩

theorem runS_bind {α β : Type} (p : Rd α) (q : α → Rd β) (d1 : α) (d : β) (s : RS) : runS (p.bind q) d s = runS (q (runS p d1 s).1) d (runS p d1 s).2 := by
  unfold runS Rd.bind
  cases s with
  | none => rfl
  | some l =>
    simp only [Option.bind_some]
    cases p l <;> rfl

theorem neOp_w64 : NeOp w64 false (.bin .neq (.t 19) (.t 23)) := fun P s h0 obl K x y hx hy hk => by
  simp only [elV, w64] at hx hy
  simp -implicitDefEqProofs [hx, hy]
  exact hk
theorem elOK_w64 : ElOK w64 1 false := ⟨fun _ => rfl, fun _ => rfl, fun n => pures1 (.int _ _), fun n => by simp [w64]⟩

def encB (n : Nat) : List AV := [.int .u8 n]
theorem bytesOf_ok : ∀ (l : List Nat), bytesOfA (l.map encB) = some (l.map fun n : Nat => (n : Int))
  | [] => rfl
  | n :: l => by simp [bytesOfA, byteOfA, encB, bytesOf_ok l]
def wbytes (ws : List Nat) (j : Nat) : List Nat := (List.range j).map (wbyte ws)
@[simp] theorem wbytes_len (ws : List Nat) (j : Nat) : (wbytes ws j).length = j := by simp [wbytes]
theorem wbytes_succ (ws : List Nat) (j : Nat) : wbytes ws (j + 1) = wbytes ws j ++ [wbyte ws j] := by simp [wbytes, List.range_succ]
theorem wbyte_bits {ws : List Nat} {j : Nat} (h : j / 8 < ws.length) : IntKind.u8.wrap (((ws[j / 8] : Nat) : Int).fdiv (2 ^ (8 * (j % 8)))) = (wbyte ws j : Int) := by
  have e : (2 : Int) ^ (8 * (j % 8)) = ((256 ^ (j % 8) : Nat) : Int) := by
    rw [Int.pow_mul]; simp
  have w8 : ∀ y : Int, IntKind.u8.wrap y = y % 256 := fun y => by simp [IntKind.wrap, IntKind.bits, IntKind.signed]
  rw [e, Int.fdiv_eq_ediv_of_nonneg _ (Int.natCast_nonneg _), w8]
  unfold wbyte
  rw [List.getD_eq_getElem?_getD, List.getElem?_eq_getElem h]
  simp
theorem strOf_unpack (n : Nat) (ws : List Nat) : strOfNums ((wbytes ws n).map fun n : Nat => (n : Int)) = unpack n ws := by
  unfold unpack strOfNums wbytes
  simp only [List.map_map]
  rfl
theorem encB_len (us : List Nat) : ∀ e ∈ us.map encB, e.length = 1 := fun e he => by
  obtain ⟨n, _, rfl⟩ := List.mem_map.1 he
  rfl
theorem rdTake_inv {k : Nat} {s : RS} {l2 : List Nat} (h : (runS (rdTake k) [] s).2 = some l2) : ∃ l, s = some l ∧ k ≤ l.length ∧ (runS (rdTake k) [] s).1 = l.take k ∧ l2 = l.drop k := by
  unfold runS at h ⊢
  cases s with
  | none => simp at h
  | some l =>
    simp only [Option.bind_some, rdTake] at h ⊢
    split at h
    · rename_i hk
      simp at h
      exact ⟨l, rfl, hk, by simp [hk], h.symm⟩
    · simp at h

end Go.Proofs

/- The document's reader of codes: gimmalref01.Read. -/
namespace Go.Proofs
open Go Go.RowKit Go.Am

/-- A value that says less. -/
def Wkr (r r' : AV) : Prop := ∀ (w : World) (g : G) (V : Value), Rep w g r V → Rep w g r' V
theorem Wkr.refl (r : AV) : Wkr r r := fun _ _ _ h => h
theorem Wkr.wk {r r' : AV} (h : wk r = r') : Wkr r r' := fun _ _ _ h' => h ▸ h'.wk
theorem Wkr.tup {l l' : List AV} (hl : l.length = l'.length) (h : ∀ (k : Nat) (v v' : AV), l[k]? = some v → l'[k]? = some v' → Wkr v v') : Wkr (.tup l) (.tup l') := fun w g V hr => by
  cases hr with
  | tup cs C hC q =>
    refine .tup l' C (hl ▸ hC) fun k hk => ?_
    exact h k _ _ (List.getElem?_eq_getElem (by omega)) (List.getElem?_eq_getElem hk) w g _ (q k (by omega))
theorem Wkr.agg {l l' : List AV} (h : WkL l l') : Wkr (.agg l) (.agg l') := fun w g V hr => by
  cases hr with
  | agg cs C hC q q2 =>
    refine .agg l' C (h.len ▸ hC) (fun k hk => ?_) fun k hk => ?_
    · obtain ⟨v1, e1, e2⟩ := h.get k _ (List.getElem?_eq_getElem hk)
      obtain ⟨hk', rfl⟩ := List.getElem?_eq_some_iff.1 e1
      exact (e2 (q2 k hk')).2 w g _ (q k hk')
    · obtain ⟨v1, e1, e2⟩ := h.get k _ (List.getElem?_eq_getElem hk)
      obtain ⟨hk', rfl⟩ := List.getElem?_eq_some_iff.1 e1
      exact (e2 (q2 k hk')).1
theorem Wkr.one {v : AV} (h : ok1 v = true) : Wkr v .any1 := fun _ _ V hv => .any1 V (ok1_one hv h)
theorem Wkr.tup3 {a b c a' b' c' : AV} (h1 : Wkr a a') (h2 : Wkr b b') (h3 : Wkr c c') : Wkr (.tup [a, b, c]) (.tup [a', b', c']) := Wkr.tup rfl fun k v v' e e' => by
  rcases k with _ | _ | _ | k <;> simp at e e' <;> subst e e' <;> assumption

theorem PCall.runW {f : FuncId} {F : FnA} {args : List AV} {r : AV} (hb : HasBody Tryd.prog f) (hf : cFn Tryd.prog f = some F) (hargs : args.length ≤ F.N) (hp : ∀ v ∈ args, PureV v) (hpr : PureV r) (hw : wk r = r)
    (hr : Run Tryd.prog false [.c F.body] (retQ F.res fun r' _ => Wkr r' r) (slots0 args) H.nil) : PCall Tryd.prog f args r :=
  PCall.of ((CallP.body hb hf hargs hr).gh fun r' h1 hq => ⟨h1, r, .weak hq (.refl _ _), hw⟩) hp hpr

theorem refBack_ok (w : Nat) (hw : w < 18446744073709551616) : PCall Tryd.prog 68 [.int .u64 w] (.int .i64 (backI w)) := by
  refine PCall.run hb68 ok68 (by simp) (pures1 (.int _ _)) (.int _ _) ?_
  have e1 : ((w : Int)).tmod 2 = ((w % 2 : Nat) : Int) := by rw [Int.tmod_eq_emod_of_nonneg (by omega)]; omega
  have e2 : ((w : Int)).tdiv 2 = ((w / 2 : Nat) : Int) := by rw [Int.tdiv_eq_ediv_of_nonneg (by omega)]; omega
  have e3 : IntKind.u64.wrap ((w / 2 : Nat) : Int) = ((w / 2 : Nat) : Int) := wrap_u64 (by omega) (by omega)
  have e4 : IntKind.i64.wrap ((w / 2 : Nat) : Int) = ((w / 2 : Nat) : Int) := wrap_i64 (by omega) (by omega)
  unfold backI
  by_cases h : w % 2 = 0
  · simp -implicitDefEqProofs [e1, e2, e3, e4, h, -Int.natCast_ediv, -Int.natCast_emod]
  · have h' : ¬ ((w % 2 : Nat) : Int) = 0 := by omega
    have e5 : IntKind.i64.wrap (-((w / 2 : Nat) : Int)) = -((w / 2 : Nat) : Int) := wrap_i64 (by omega) (by omega)
    have e6 : IntKind.i64.wrap (-((w / 2 : Nat) : Int) - 1) = -((w / 2 : Nat) : Int) - 1 := wrap_i64 (by omega) (by omega)
    simp -implicitDefEqProofs [e1, e2, e3, e4, e5, e6, h, -Int.natCast_ediv, -Int.natCast_emod]

def rdTextW : Rd (ByteArray × List Nat) := (rdCount 64).bind fun n => (rdTake ((n.toNat + 7) / 8)).bind fun ws => fun l => if packed (unpack n.toNat ws) = ws then some ((unpack n.toNat ws, ws), l) else none
theorem rdText_W (l : List Nat) : rdText l = (rdTextW l).map fun x => (x.1.1, x.2) := by
  rw [rdText_bind]
  unfold rdTextW Rd.bind
  cases rdCount 64 l with
  | none => rfl
  | some x =>
    simp only [Option.bind_some]
    cases rdTake ((x.1.toNat + 7) / 8) x.2 with
    | none => rfl
    | some y =>
      simp only [Option.bind_some]
      split <;> rfl

/-- What the document reads of words, as an item. -/
def refRead (kind most : Int) : Rd Item := fun l =>
  if kind = 1 then (rdSigned l).map fun p => (⟨kind, 0, most, p.1, ⟨#[]⟩, []⟩, p.2)
  else if kind = 0 then (rdCount most l).map fun p => (⟨kind, p.1, most, 0, ⟨#[]⟩, []⟩, p.2)
  else if kind = 2 then (rdCount 1 l).map fun p => (⟨kind, p.1, most, 0, ⟨#[]⟩, []⟩, p.2)
  else if kind = 3 then (rdTextW l).map fun p => (⟨kind, 0, most, 0, p.1.1, p.1.2⟩, p.2)
  else (rdWords most l).map fun p => (⟨kind, 0, most, 0, ⟨#[]⟩, p.1⟩, p.2)

def encRead : Option (Item × List Nat) → AV
  | some (x, l) => .tup [.agg (encItm x), encW l, .bool true]
  | none => .tup [.agg [.any1, .any1, .any1, .any1, .any1, .any1], .any1, .bool false]

theorem pure_encRead (o : Option (Item × List Nat)) : PureV (encRead o) := by
  cases o with
  | none => exact .tup (pures_cons (.agg (pures_cons .any1 (pures_cons .any1 (pures_cons .any1 (pures_cons .any1 (pures_cons .any1 (pures1 .any1))))))) (pures_cons .any1 (pures1 (.bool _))))
  | some x => exact .tup (pures_cons (.agg (pure_encI _)) (pures_cons (pure_w64 _) (pures1 (.bool _))))
theorem wk_encRead (o : Option (Item × List Nat)) : wk (encRead o) = encRead o := by
  cases o <;> simp [encRead]

theorem bad6 {a b c d e f v : AV} (ha : ok1 a = true) (hv : ok1 v = true) : Wkr (.tup [.agg [a, b, c, d, e, f], v, .bool false]) (encRead none) :=
  Wkr.tup3 (Wkr.agg (.cons (.any _) (.cons (.any _) (.cons (.any _) (.cons (.any _) (.cons (.any _) (.cons (.any _) .nil))))))) (Wkr.one hv) (Wkr.refl _)

def readT26 : IR := .seq (.seq (.reg c54_r26) (.cond (.t 83) (.seq (.reg c54_r27) (.seq (.seq (.reg c54_r28) (.blk 0 (.loop c54_l41))) (.reg c54_r42))) (.skip))) (.seq (.dreg c54_r43 c54_a43) (.ret))
def readT23 : IR := .seq (.seq (.reg c54_r23) (.cond (.t 73) (.seq (.reg c54_r24) (.ret)) (.skip))) (.seq (.reg c54_r25) readT26)
def readT14 : IR := .seq (.seq (.reg c54_r14) (.cond (.t 49) (.seq (.reg c54_r15) (.ret)) (.skip))) (.seq (.reg c54_r16) (.seq (.seq (.reg c54_r17) (.cond (.t 59) (.seq (.reg c54_r18) (.seq (.reg c54_r19) (.ret))) (.skip)))
  (.seq (.reg c54_r20) (.seq (.seq (.reg c54_r21) (.cond (.t 66) (.reg c54_r22) (.skip))) readT23))))

abbrev readQ (o : Option (Item × List Nat)) : Res → Slots → H → Prop := retQ [ResA.cell 6 6 true, ResA.t 7, ResA.t 8] fun r' _ => Wkr r' (encRead o)

structure ReadS (s : Slots) (h : H) (w : Nat) (l : List Nat) (kind most : Int) (cs : List AV) : Prop where
  s0 : s 0 = encW (w :: l)
  s1 : s 1 = .int .i64 kind
  s6 : s 6 = .ptr 0 0
  s9 : s 9 = .ptr 1 0
  s11 : s 11 = encW l
  bn : h.bn = 2
  b0 : h.bx 0 = some [.int .i64 0, .int .i64 0, .int .i64 0, .int .i64 0, .str ⟨#[]⟩, .sl .full []]
  b1 : h.bx 1 = some cs

theorem read43 {s : Slots} {h : H} {w : Nat} {l : List Nat} {kind most : Int} {k : Nat} {x : Item} {t : Tok} (hs : ReadS s h w l kind most [.int .i64 x.kind, .int .i64 x.n, .int .i64 x.most, .int .i64 x.x, .str x.s, .sl t (x.l.map w64)]) (h13 : s 13 = .int .i64 k) (hk : k ≤ l.length) :
    Run Tryd.prog false [.c (.dreg c54_r43 c54_a43), .c .ret] (readQ (some (x, l.drop k))) s h := by
  obtain ⟨s0, s1, s6, s9, s11, bn, b0, b1⟩ := hs
  refine run_dreg c54_d43 ?_
  simp -implicitDefEqProofs [s9, s6, s11, h13, bn, b0, b1, -bndOf, bnd_nat hk, bnd_none, w64]
  exact Wkr.wk (by simp [encRead, encItm])

theorem ReadS.app {s : Slots} {h h' : H} {w : Nat} {l : List Nat} {kind most : Int} {cs : List AV} {T : Nat → Prop} (a : ReadS s h w l kind most cs) (e : HF h h' (fun _ => False) T) (hb : h'.bn = h.bn) : ReadS s h' w l kind most cs :=
  ⟨a.s0, a.s1, a.s6, a.s9, a.s11, hb.trans a.bn, (e.bx 0 (by rw [a.bn]; omega) fun h => h).trans a.b0, (e.bx 1 (by rw [a.bn]; omega) fun h => h).trans a.b1⟩
theorem ReadS.slots {s s' : Slots} {h : H} {w : Nat} {l : List Nat} {kind most : Int} {cs : List AV} (a : ReadS s h w l kind most cs) (h0 : s' 0 = s 0) (h1 : s' 1 = s 1) (h6 : s' 6 = s 6) (h9 : s' 9 = s 9) (h11 : s' 11 = s 11) : ReadS s' h w l kind most cs :=
  ⟨h0.trans a.s0, h1.trans a.s1, h6.trans a.s6, h9.trans a.s9, h11.trans a.s11, a.bn, a.b0, a.b1⟩

theorem wrap_u64n {n : Nat} (h : n < 18446744073709551616) : IntKind.u64.wrap (n : Int) = n := wrap_u64 (by omega) (by omega)
theorem wordDiv {v i : Nat} : v / 256 ^ i / 256 = v / 256 ^ (i + 1) := by rw [Nat.div_div_eq_div_mul, Nat.pow_succ]

theorem read26 {s : Slots} {h : H} {w : Nat} {l : List Nat} {kind most : Int} {n k : Nat} {t : Tok} (hl : ∀ w ∈ l, w < 18446744073709551616) (hs : ReadS s h w l kind most [.int .i64 kind, .int .i64 0, .int .i64 most, .int .i64 0, .str ⟨#[]⟩, .sl t ((l.take k).map w64)])
    (h12 : s 12 = .int .i64 n) (h13 : s 13 = .int .i64 k) (hk : k ≤ l.length) (h3 : kind = 3 → k = (n + 7) / 8 ∧ n ≤ 64) :
    Run Tryd.prog false [.c readT26] (readQ (if kind = 3 then (if packed (unpack n (l.take k)) = l.take k then some (⟨kind, 0, most, 0, unpack n (l.take k), l.take k⟩, l.drop k) else none) else some (⟨kind, 0, most, 0, ⟨#[]⟩, l.take k⟩, l.drop k))) s h := by
  unfold readT26
  by_cases k3 : kind = 3
  · obtain ⟨hkn, hn⟩ := h3 k3
    have hws : (l.take k).length = (n + 7) / 8 := by simp; omega
    have hww : ∀ w ∈ l.take k, w < 18446744073709551616 := fun w hw => hl w (List.mem_of_mem_take hw)
    have hiff := packed_unpack hws hww
    generalize hW : l.take k = ws at *
    rw [if_pos k3]
    have s1 := hs.s1
    simp -implicitDefEqProofs [s1, k3]
    refine run_loop (fun m s h => ∃ (j : Nat) (t2 : Tok), m = 8 * k - j ∧ j ≤ 8 * k ∧ ReadS s h w l kind most [.int .i64 kind, .int .i64 0, .int .i64 most, .int .i64 0, .str ⟨#[]⟩, .sl t (ws.map w64)] ∧ s 12 = .int .i64 n ∧ s 13 = .int .i64 k ∧ s 15 = .int .i64 j ∧ s 14 = .sl t2 ((wbytes ws (min j n)).map encB) ∧ TLive h t2 (min j n) ∧ ∀ i, n ≤ i → i < j → wbyte ws i = 0) ?_ (8 * k) ?_
    · rintro m s h ⟨j, t2, hm, hj, hs, h12, h13, h15, h14, hlv, hz⟩ ih
      have e8 : IntKind.i64.wrap (8 * (k : Int)) = 8 * (k : Int) := wrap_i64 (by omega) (by omega)
      simp -implicitDefEqProofs [h13, h15, e8]
      by_cases hjk : j < 8 * k
      · have hjk' : (j : Int) < 8 * (k : Int) := by omega
        have hj8 : j / 8 < ws.length := by omega
        have i1 : idxOf (.int .i64 ((j / 8 : Nat) : Int)) ws.length = some (j / 8) := idxOf_nat hj8
        have q1 : ((j : Int)).tdiv 8 = ((j / 8 : Nat) : Int) := by rw [Int.tdiv_eq_ediv_of_nonneg (by omega)]; omega
        have q3 : ((j : Int)).tmod 8 = ((j % 8 : Nat) : Int) := by rw [Int.tmod_eq_emod_of_nonneg (by omega)]; omega
        have q4 : IntKind.i64.wrap ((j / 8 : Nat) : Int) = ((j / 8 : Nat) : Int) := wrap_i64 (by omega) (by omega)
        have wd : wbyte ws j = ws[j / 8] / 256 ^ (j % 8) % 256 := by unfold wbyte; rw [List.getD_eq_getElem?_getD, List.getElem?_eq_getElem hj8]; rfl
        have wl : ws[j / 8] < 18446744073709551616 := hww _ (List.getElem_mem hj8)
        simp -implicitDefEqProofs [hjk', hs.s9, hs.bn, hs.b1, h15, i1, hj8, q1, q4, w64, -idxOf, -Int.natCast_ediv, -Int.natCast_emod]
        refine run_loop (fun m' s2 h2 => ∃ i : Nat, m' = j % 8 - i ∧ i ≤ j % 8 ∧ h2 = h ∧ ReadS s2 h w l kind most [.int .i64 kind, .int .i64 0, .int .i64 most, .int .i64 0, .str ⟨#[]⟩, .sl t (ws.map w64)] ∧ s2 12 = .int .i64 n ∧ s2 13 = .int .i64 k ∧ s2 15 = .int .i64 j ∧ s2 14 = s 14 ∧ s2 16 = .int .u64 (ws[j / 8] / 256 ^ i : Nat) ∧ s2 17 = .int .i64 i) ?_ (j % 8) ?_
        · rintro m' s2 h2 ⟨i, hm', hi, rfl, gs, g12, g13, g15, g14, g16, g17⟩ ih2
          simp -implicitDefEqProofs [g15, g17, q3, -Int.natCast_emod]
          by_cases hij : i < j % 8
          · have d1 : (((ws[j / 8] / 256 ^ i : Nat) : Int)).tdiv 256 = ((ws[j / 8] / 256 ^ (i + 1) : Nat) : Int) := by
              rw [Int.tdiv_eq_ediv_of_nonneg (Int.natCast_nonneg _), ← wordDiv]
              generalize ws[j / 8] / 256 ^ i = y
              omega
            have d2 : ws[j / 8] / 256 ^ (i + 1) ≤ ws[j / 8] := Nat.div_le_self _ _
            have d3 : IntKind.u64.wrap ((ws[j / 8] / 256 ^ (i + 1) : Nat) : Int) = ((ws[j / 8] / 256 ^ (i + 1) : Nat) : Int) := wrap_u64n (Nat.lt_of_le_of_lt d2 wl)
            simp -implicitDefEqProofs [hij, g16, g17, d1, d3, inc_i64 hij (by omega), -Int.natCast_ediv, -Int.natCast_add, -Int.natCast_emod]
            exact ih2 (j % 8 - (i + 1)) _ _ (by omega) ⟨i + 1, rfl, by omega, rfl, gs.slots (by simp) (by simp) (by simp) (by simp) (by simp), by simp [g12], by simp [g13], by simp [g15], by simp [g14], by simp, by simp⟩
          · have hi8 : i = j % 8 := by omega
            subst hi8
            have d1 : (((ws[j / 8] / 256 ^ (j % 8) : Nat) : Int)).tmod 256 = (wbyte ws j : Int) := by
              rw [Int.tmod_eq_emod_of_nonneg (Int.natCast_nonneg _), wd]
              generalize ws[j / 8] / 256 ^ (j % 8) = y
              omega
            have wl2 := wbyte_lt ws j
            have d2 : IntKind.u8.wrap (wbyte ws j : Int) = (wbyte ws j : Int) := by
              have w8 : ∀ y : Int, IntKind.u8.wrap y = y % 256 := fun y => by simp [IntKind.wrap, IntKind.bits, IntKind.signed]
              rw [w8]; omega
            simp -implicitDefEqProofs [hij, g12, g15, -Int.natCast_emod]
            by_cases hjn : j < n
            · have hmin : min j n = j := by omega
              have hmin' : min (j + 1) n = j + 1 := by omega
              rw [hmin] at h14 hlv
              simp -implicitDefEqProofs [hjn, g14, h14, g16, d1, d2, -Int.natCast_ediv]
              refine appQ_tok (es2 := [encB (wbyte ws j)]) (by simpa using hlv) (encB_len _) (by simp [srcA, encB]) (by simp; omega) fun t' h4' p1 p2 p3 p4 => ?_
              simp -implicitDefEqProofs [g15, inc_i64 hjk (by omega), -Int.natCast_add]
              refine ih (8 * k - (j + 1)) _ _ (by omega) ⟨j + 1, t', rfl, by omega, (gs.app p3 p4).slots (by simp) (by simp) (by simp) (by simp) (by simp), by simp [g12], by simp [g13], by simp, by simp [hmin', wbytes_succ], by simpa [hmin'] using p1, fun i h1 h2 => by omega⟩
            · have hmin : min j n = n := by omega
              have hmin' : min (j + 1) n = n := by omega
              by_cases hb0 : wbyte ws j = 0
              · simp -implicitDefEqProofs [hjn, g16, d1, hb0, g15, inc_i64 hjk (by omega), -Int.natCast_ediv, -Int.natCast_add]
                refine ih (8 * k - (j + 1)) _ _ (by omega) ⟨j + 1, t2, rfl, by omega, gs.slots (by simp) (by simp) (by simp) (by simp) (by simp), by simp [g12], by simp [g13], by simp, by simp [hmin', g14, h14, hmin], by rw [hmin', ← hmin]; exact hlv, fun i h1 h2 => ?_⟩
                by_cases hij : i = j
                · rw [hij]; exact hb0
                · exact hz i h1 (by omega)
              · have hnp : ¬ packed (unpack n ws) = ws := fun h => hb0 (hiff.1 h j (by omega) (by omega))
                simp -implicitDefEqProofs [hjn, g16, d1, hb0, gs.s9, gs.s6, gs.s0, gs.bn, gs.b0, gs.b1, hnp, -Int.natCast_ediv]
                exact bad6 rfl rfl
        · exact ⟨0, by simp, by omega, rfl, hs.slots (by simp) (by simp) (by simp) (by simp) (by simp), by simp [h12], by simp [h13], by simp [h15], by simp, by simp, by simp⟩
      · have hjk' : ¬ (j : Int) < 8 * (k : Int) := by omega
        have hp : packed (unpack n ws) = ws := hiff.2 fun i h1 h2 => hz i h1 (by omega)
        have hmin : min j n = n := by omega
        rw [hmin] at h14
        simp -implicitDefEqProofs [hjk', hs.s9, hs.bn, hs.b1, h14, bytesOf_ok, strOf_unpack, -List.map_map, hp]
        subst hW
        have hs' : ReadS s (h.set 1 [.int .i64 kind, .int .i64 0, .int .i64 most, .int .i64 0, .str (unpack n (l.take k)), .sl t ((l.take k).map w64)]) w l kind most [.int .i64 kind, .int .i64 0, .int .i64 most, .int .i64 0, .str (unpack n (l.take k)), .sl t ((l.take k).map w64)] :=
          ⟨hs.s0, hs.s1, hs.s6, hs.s9, hs.s11, hs.bn, by simpa using hs.b0, by simp⟩
        subst k3
        exact read43 (x := ⟨3, 0, most, 0, unpack n (l.take k), l.take k⟩) (hs'.slots (by simp) (by simp) (by simp) (by simp) (by simp)) (by simp [h13]) hk
    · exact ⟨0, .full, by simp, by omega, hs.slots (by simp) (by simp) (by simp) (by simp) (by simp), by simp [h12], by simp [h13], by simp, by simp [wbytes], trivial, fun i h1 h2 => by omega⟩
  · have s1 := hs.s1
    rw [if_neg k3]
    simp -implicitDefEqProofs [s1, k3]
    exact read43 (x := ⟨kind, 0, most, 0, ⟨#[]⟩, l.take k⟩) (hs.slots (by simp) (by simp) (by simp) (by simp) (by simp)) (by simp [h13]) hk

theorem read23 {s : Slots} {h : H} {w : Nat} {l : List Nat} {kind most : Int} {n k : Nat} (hl : ∀ w ∈ l, w < 18446744073709551616) (hlen : l.length ≤ 1000000) (hs : ReadS s h w l kind most [.int .i64 kind, .int .i64 0, .int .i64 most, .int .i64 0, .str ⟨#[]⟩, .sl .full []])
    (h12 : s 12 = .int .i64 n) (h13 : s 13 = .int .i64 k) (h3 : kind = 3 → k = (n + 7) / 8 ∧ n ≤ 64) :
    Run Tryd.prog false [.c readT23] (readQ (if k ≤ l.length then (if kind = 3 then (if packed (unpack n (l.take k)) = l.take k then some (⟨kind, 0, most, 0, unpack n (l.take k), l.take k⟩, l.drop k) else none) else some (⟨kind, 0, most, 0, ⟨#[]⟩, l.take k⟩, l.drop k)) else none)) s h := by
  unfold readT23
  obtain ⟨s0, s1, s6, s9, s11, bn, b0, b1⟩ := id hs
  by_cases hk : k ≤ l.length
  · rw [if_pos hk]
    have hk' : ¬ l.length < k := by omega
    simp -implicitDefEqProofs [s11, h13, hk', -bndOf, bnd_nat hk, bnd_none]
    refine appQ_w [] (l.take k) (by simp) (by simp) (t := .full) trivial (by simp; omega) fun t' h' q1 q2 q3 q4 => ?_
    have hs' := hs.app q3 q4
    simp -implicitDefEqProofs [s9, hs'.bn, hs'.b1]
    refine read26 (w := w) (t := t') hl ⟨by simp [s0], by simp [s1], by simp [s6], by simp [s9], by simp [s11], by simpa using hs'.bn, by simpa using hs'.b0, by simp⟩ (by simp [h12]) (by simp [h13]) hk h3
  · rw [if_neg hk]
    have hk' : l.length < k := by omega
    simp -implicitDefEqProofs [s11, h13, hk', s9, s6, s0, bn, b0, b1]
    exact bad6 rfl rfl

theorem read14 {s : Slots} {h : H} {w : Nat} {l : List Nat} {kind most M : Int} (hM : inI M) (hl : ∀ w' ∈ w :: l, w' < 18446744073709551616) (hlen : l.length ≤ 1000000) (hs : ReadS s h w l kind most [.int .i64 kind, .int .i64 0, .int .i64 most, .int .i64 0, .str ⟨#[]⟩, .sl .full []])
    (h2 : s 2 = .int .i64 M) (h10 : s 10 = .int .u64 w) (hk1 : kind ≠ 1) (hk2 : kind = 2 → M = 1) (hk3 : kind = 3 → M = 64) (hkM : kind ≠ 2 → kind ≠ 3 → M = most) :
    Run Tryd.prog false [.c readT14] (readQ (refRead kind most (w :: l))) s h := by
  unfold readT14
  obtain ⟨s0, s1, s6, s9, s11, bn, b0, b1⟩ := id hs
  have hw := hl w (List.mem_cons_self ..)
  have hl' : ∀ w' ∈ l, w' < 18446744073709551616 := fun w' h => hl w' (List.mem_cons_of_mem _ h)
  obtain ⟨M1, M2⟩ := hM
  have hno : ¬ (0 ≤ M ∧ (w : Int) ≤ M) → refRead kind most (w :: l) = none := fun hn => by
    unfold refRead
    rw [if_neg hk1]
    by_cases k0 : kind = 0
    · have := hkM (by omega) (by omega)
      subst this
      simp [k0, rdCount, hn]
    by_cases k2 : kind = 2
    · have := hk2 k2
      subst this
      have : rdCount 1 (w :: l) = none := by exact if_neg hn
      simp [k2, this]
    by_cases k3 : kind = 3
    · have := hk3 k3
      subst this
      have : rdCount 64 (w :: l) = none := by exact if_neg hn
      simp [k3, rdTextW, Rd.bind, this]
    · have := hkM k2 k3
      subst this
      simp [k0, k2, k3, rdWords, rdCount, hn]
  by_cases m0 : M < 0
  · rw [hno (by omega)]
    simp -implicitDefEqProofs [h2, m0, s9, s6, s0, bn, b0, b1]
    exact bad6 rfl rfl
  have eM : IntKind.u64.wrap M = M := wrap_u64 (by omega) (by omega)
  by_cases mw : M < (w : Int)
  · rw [hno (by omega)]
    simp -implicitDefEqProofs [h2, m0, h10, eM, mw, s9, s6, s0, bn, b0, b1]
    exact bad6 rfl rfl
  have eW : IntKind.i64.wrap (w : Int) = (w : Int) := wrap_i64 (by omega) (by omega)
  have ok : 0 ≤ M ∧ (w : Int) ≤ M := by omega
  by_cases k0 : kind = 0
  · have hM := hkM (by omega) (by omega)
    subst hM
    have hr : refRead kind M (w :: l) = some (⟨kind, w, M, 0, ⟨#[]⟩, []⟩, l) := by
      unfold refRead
      simp [k0, rdCount, ok]
    rw [hr]
    simp -implicitDefEqProofs [h2, m0, h10, eM, eW, mw, s1, k0, s9, s6, s11, bn, b0, b1]
    exact Wkr.wk (by simp [encRead, encItm])
  by_cases k2 : kind = 2
  · have hM := hk2 k2
    subst hM
    have hr : refRead kind most (w :: l) = some (⟨kind, w, most, 0, ⟨#[]⟩, []⟩, l) := by
      unfold refRead
      simp [k2, rdCount, ok]
    rw [hr]
    simp -implicitDefEqProofs [h2, m0, h10, eM, eW, mw, s1, k2, s9, s6, s11, bn, b0, b1]
    exact Wkr.wk (by simp [encRead, encItm])
  by_cases k3 : kind = 3
  · have hM := hk3 k3
    subst hM
    have hw64 : w ≤ 64 := by omega
    have e1 : IntKind.i64.wrap ((w : Int) + 7) = (w : Int) + 7 := wrap_i64 (by omega) (by omega)
    have e3 : IntKind.i64.wrap (((w : Int) + 7).tdiv 8) = (((w + 7) / 8 : Nat) : Int) := by
      rw [Int.tdiv_eq_ediv_of_nonneg (by omega), wrap_i64 (by omega) (by omega)]
      omega
    have hr : refRead kind most (w :: l) = (if (w + 7) / 8 ≤ l.length then (if kind = 3 then (if packed (unpack w (l.take ((w + 7) / 8))) = l.take ((w + 7) / 8) then some (⟨kind, 0, most, 0, unpack w (l.take ((w + 7) / 8)), l.take ((w + 7) / 8)⟩, l.drop ((w + 7) / 8)) else none) else some (⟨kind, 0, most, 0, ⟨#[]⟩, l.take ((w + 7) / 8)⟩, l.drop ((w + 7) / 8))) else none) := by
      have e : rdCount 64 (w :: l) = some ((w : Int), l) := if_pos ok
      unfold refRead
      rw [if_neg hk1, if_neg k0, if_neg k2, if_pos k3]
      simp only [rdTextW, Rd.bind, e, Option.bind_some, Int.toNat_natCast, rdTake]
      by_cases h1 : (w + 7) / 8 ≤ l.length
      · simp only [if_pos h1, Option.bind_some, if_pos k3]
        split <;> simp
      · simp [h1]
    rw [hr]
    simp -implicitDefEqProofs [h2, m0, h10, eM, eW, mw, s1, k3, e1, e3, -Int.natCast_ediv]
    subst k3
    exact read23 hl' hlen (hs.slots (by simp) (by simp) (by simp) (by simp) (by simp)) (by simp) (by simp) fun _ => ⟨rfl, hw64⟩
  · have hM := hkM k2 k3
    subst hM
    have hr : refRead kind M (w :: l) = (if w ≤ l.length then (if kind = 3 then (if packed (unpack w (l.take w)) = l.take w then some (⟨kind, 0, M, 0, unpack w (l.take w), l.take w⟩, l.drop w) else none) else some (⟨kind, 0, M, 0, ⟨#[]⟩, l.take w⟩, l.drop w)) else none) := by
      have e : rdCount M (w :: l) = some ((w : Int), l) := if_pos ok
      unfold refRead
      rw [if_neg hk1, if_neg k0, if_neg k2, if_neg k3]
      simp only [rdWords, e, Option.bind_some, Int.toNat_natCast, rdTake]
      by_cases h1 : w ≤ l.length
      · simp [h1, k3]
      · simp [h1]
    simp -implicitDefEqProofs [h2, m0, h10, eM, eW, mw, s1, k0, k2, k3]
    rw [hr]
    refine read23 (w := w) (n := w) (k := w) hl' hlen ?_ (by simp) (by simp) fun h => absurd h k3
    exact hs.slots (by simp) (by simp) (by simp) (by simp) (by simp)

theorem refRead_ok {l : List Nat} (hl : Bd (some l)) (kind : Int) {most : Int} (hm : inI most) : PCall Tryd.prog 54 [encW l, .int .i64 kind, .int .i64 most] (encRead (refRead kind most l)) := by
  refine PCall.runW hb54 ok54 (by simp) (pures_cons (pure_w64 l) (pures_cons (.int _ _) (pures1 (.int _ _)))) (pure_encRead _) (wk_encRead _) ?_
  obtain ⟨hlen, hb⟩ := hl l rfl
  obtain ⟨m1, m2⟩ := id hm
  cases l with
  | nil =>
    have : refRead kind most [] = none := by unfold refRead; split <;> (try split) <;> (try split) <;> (try split) <;> rfl
    simp -implicitDefEqProofs [this]
    exact bad6 rfl rfl
  | cons w l =>
    have hw := hb w (List.mem_cons_self ..)
    have e0 : ¬ (l.length : Int) + 1 = 0 := by omega
    have e1 : (1 : Int) ≤ (l.length : Int) + 1 := by omega
    have e2 : List.take l.length (List.map w64 l) = List.map w64 l := List.take_of_length_le (by simp)
    have hlen' : l.length ≤ 1000000 := by simp at hlen; omega
    by_cases k1 : kind = 1
    · simp -implicitDefEqProofs [e0, e1, k1, w64, bndOf]
      refine callQ_p (refBack_ok w hw) (by simp) ?_
      simp -implicitDefEqProofs [e2, refRead, rdSigned, encRead, encItm]
      exact Wkr.wk (by simp [])
    · have hs : ReadS (su (slots0 [encW (w :: l), .int .i64 kind, .int .i64 most]) 6 (.ptr 0 0) |> fun s => su (su s 9 (.ptr 1 0)) 11 (encW l)) (((H.nil.alloc [.int .i64 0, .int .i64 0, .int .i64 0, .int .i64 0, .str ⟨#[]⟩, .sl .full []]).alloc [.int .i64 0, .int .i64 0, .int .i64 0, .int .i64 0, .str ⟨#[]⟩, .sl .full []]).set 1 [.int .i64 kind, .int .i64 0, .int .i64 most, .int .i64 0, .str ⟨#[]⟩, .sl .full []]) w l kind most [.int .i64 kind, .int .i64 0, .int .i64 most, .int .i64 0, .str ⟨#[]⟩, .sl .full []] :=
        ⟨by simp, by simp, by simp, by simp, by simp, rfl, by simp [H.nil], by simp⟩
      simp -implicitDefEqProofs [e0, e1, e2, k1, w64, bndOf]
      refine condQ_split (fun k2 => ?_) (fun k2 => ?_)
      · change Run Tryd.prog false [It.c (if true = true then IR.reg c54_r11 else IR.skip), It.c (.seq (.seq (.reg c54_r12) (.cond (.t 41) (.reg c54_r13) (.skip))) readT14)] _ _ _
        simp -implicitDefEqProofs [k2]
        subst k2
        refine read14 (M := 1) ⟨by omega, by omega⟩ hb hlen' ?_ (by simp) (by simp) k1 (fun _ => rfl) (fun h => by omega) (fun h => absurd rfl h)
        exact hs.slots (by simp [w64]) (by simp) (by simp [H.nil]) (by simp [H.nil]) (by simp [])
      · change Run Tryd.prog false [It.c (if false = true then IR.reg c54_r11 else IR.skip), It.c (.seq (.seq (.reg c54_r12) (.cond (.t 41) (.reg c54_r13) (.skip))) readT14)] _ _ _
        by_cases k3 : kind = 3
        · simp -implicitDefEqProofs [k3]
          subst k3
          refine read14 (M := 64) ⟨by omega, by omega⟩ hb hlen' ?_ (by simp) (by simp) k1 (fun h => by omega) (fun _ => rfl) (fun _ h => absurd rfl h)
          exact hs.slots (by simp [w64]) (by simp) (by simp [H.nil]) (by simp [H.nil]) (by simp [])
        · simp -implicitDefEqProofs [k2, k3]
          refine read14 (M := most) hm hb hlen' ?_ (by simp) (by simp) k1 (fun h => absurd h k2) (fun h => absurd h k3) (fun _ _ => rfl)
          exact hs.slots (by simp [w64]) (by simp) (by simp [H.nil]) (by simp [H.nil]) (by simp [])
end Go.Proofs
