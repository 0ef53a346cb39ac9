/- What the functions that the statement reaches do: their contracts; and what follows of it. -/
import Derived.Test.YtaepkklbckgbhaaDoorSProgWords8
import Derived.Test.YtaepkklbckgbhaaDoorK4
/- The document's reader: items, templates, programs, footprints. -/
namespace Go.Proofs
open Go Go.RowKit Go.Am

def item00 : Item := ⟨0, 0, 0, 0, ⟨#[]⟩, []⟩
theorem item_rd {h : H} {b : Nat} {s : RS} (hr : RIs h b s) (kind : Int) {most : Int} (hm : inI most) : RdX 30 [.ptr b 0, .int .i64 kind, .int .i64 most] h b (.agg (encItm (runS (refRead kind most) item00 s).1)) (runS (refRead kind most) item00 s).2 := by
  have hbd : Bd (runS (refRead kind most) item00 s).2 := by
    intro l' e
    cases s with
    | none => cases e
    | some l =>
      cases hq : refRead kind most l with
      | none => simp [runS, hq] at e
      | some x =>
        simp [runS, hq] at e
        subst e
        exact (refRead_bd hr.bd hq).1 _ rfl
  refine RdX.mk' hr hbd (.agg (pure_encI _)) (CallP.run hb30 ok30 (by simp) ?_)
  have hb := hr.blt
  have hx := hr.bx
  have z0 : ¬ b = h.bn := by omega
  have z1 : ¬ h.bn = b := by omega
  have z2 : b < h.bn + 1 := by omega
  have z3 : b < h.bn + 1 + 1 := by omega
  have z4 : ¬ b = h.bn + 1 := by omega
  have z5 : ¬ h.bn + 1 = b := by omega
  cases s with
  | none =>
    rw [encRS] at hx
    simp -implicitDefEqProofs [hx, z0, z2, runS, encItm, item00]
    refine ⟨?_, _, ?_, WkL.refl _⟩
    · exact (HF.alloc _ _ _ _).trans' (HF.set (B := (· = h.bn)) _ rfl) (fun x hx e => by have e : x = h.bn := e; omega) (fun _ _ h => h)
    · simp [z0, hx, encRS]
  | some l =>
    rw [encRS] at hx
    simp -implicitDefEqProofs [hx, z0, z2]
    refine callQ_p (refRead_ok hr.bd kind hm) (by simp) ?_
    cases hq : refRead kind most l with
    | none =>
      simp -implicitDefEqProofs [encRead, hx, z0, z1, z3, z4, runS, encItm, item00, hq]
      refine RFin.so (RFin.bad (v := encW l) ?_ (by simp)) (Nat.le_refl _) hb _
      refine HF.trans ?_ (HF.set (B := (· = b)) _ rfl)
      exact ((HF.alloc _ _ _ _).trans (HF.alloc _ _ _ _)).trans' (HF.set (B := (· = h.bn + 1)) _ rfl) (fun x hx e => by have e : x = h.bn + 1 := e; omega) (fun _ _ h => h)
    | some x =>
      obtain ⟨y, l'⟩ := x
      simp -implicitDefEqProofs [encRead, hx, z0, z1, z3, z4, z5, runS, encItm, hq]
      refine RFin.so (RFin.ok ?_ (by simp [encRS])) (Nat.le_refl _) hb _
      exact ((HF.alloc _ _ _ _).trans (HF.alloc _ _ _ _)).trans' (HF.set (B := (· = h.bn + 1)) _ rfl) (fun x hx e => by have e : x = h.bn + 1 := e; omega) (fun _ _ h => h)

theorem runS_map {α β : Type} {p : Rd α} {q : Rd β} {d : α} {d' : β} {f : α → β} (g : β → α) (hd : g d' = d) (hg : ∀ a, g (f a) = a) (hq : ∀ l, q l = (p l).map fun x => (f x.1, x.2)) (s : RS) : g (runS q d' s).1 = (runS p d s).1 ∧ (runS q d' s).2 = (runS p d s).2 := by
  unfold runS
  cases s with
  | none => exact ⟨hd, rfl⟩
  | some l =>
    simp only [Option.bind_some, hq]
    cases p l with
    | none => exact ⟨hd, rfl⟩
    | some x => exact ⟨hg _, rfl⟩
theorem item_count (most : Int) (s : RS) : (runS (refRead 0 most) item00 s).1.n = (runS (rdCount most) 0 s).1 ∧ (runS (refRead 0 most) item00 s).2 = (runS (rdCount most) 0 s).2 :=
  runS_map (f := fun n => (⟨0, n, most, 0, ⟨#[]⟩, []⟩ : Item)) (·.n) rfl (fun _ => rfl) (fun l => by simp [refRead]) s
theorem item_signed (s : RS) : (runS (refRead 1 0) item00 s).1.x = (runS rdSigned 0 s).1 ∧ (runS (refRead 1 0) item00 s).2 = (runS rdSigned 0 s).2 :=
  runS_map (f := fun n => (⟨1, 0, 0, n, ⟨#[]⟩, []⟩ : Item)) (·.x) rfl (fun _ => rfl) (fun l => by simp [refRead]) s
theorem item_flag (s : RS) : decide ((runS (refRead 2 0) item00 s).1.n = 1) = (runS rdFlag false s).1 ∧ (runS (refRead 2 0) item00 s).2 = (runS rdFlag false s).2 := by
  have h := runS_map (p := rdCount 1) (q := refRead 2 0) (d := 0) (d' := item00) (f := fun n => (⟨2, n, 0, 0, ⟨#[]⟩, []⟩ : Item)) (·.n) rfl (fun _ => rfl) (fun l => by simp [refRead]) s
  have h1 : (runS (refRead 2 0) item00 s).1.n = (runS (rdCount 1) 0 s).1 := h.1
  have h2 : ((runS rdFlag false s).1 = true ↔ (runS (rdCount 1) 0 s).1 = 1) ∧ (runS rdFlag false s).2 = (runS (rdCount 1) 0 s).2 := by
    unfold runS rdFlag
    cases s with
    | none => simp
    | some l =>
      simp only [Option.bind_some]
      cases hq : rdCount 1 l <;> simp
  refine ⟨?_, h.2.trans h2.2.symm⟩
  rw [Bool.eq_iff_iff, decide_eq_true_eq, h1]
  exact h2.1.symm
theorem item_text (s : RS) : (runS (refRead 3 0) item00 s).1.s = (runS rdText ⟨#[]⟩ s).1 ∧ (runS (refRead 3 0) item00 s).2 = (runS rdText ⟨#[]⟩ s).2 := by
  have h := runS_map (p := rdTextW) (q := refRead 3 0) (d := (⟨#[]⟩, [])) (d' := item00) (f := fun n => (⟨3, 0, 0, 0, n.1, n.2⟩ : Item)) (fun y => (y.s, y.l)) rfl (fun _ => rfl) (fun l => by simp [refRead]) s
  have h1 : (runS (refRead 3 0) item00 s).1.s = (runS rdTextW (⟨#[]⟩, []) s).1.1 := congrArg Prod.fst h.1
  rw [h1, h.2]
  unfold runS
  cases s with
  | none => exact ⟨rfl, rfl⟩
  | some l =>
    simp only [Option.bind_some, rdText_W]
    cases rdTextW l with
    | none => exact ⟨rfl, rfl⟩
    | some x => exact ⟨rfl, rfl⟩

/-- An item's call: what is taken of it, as a piece of reading. -/
theorem callQ_item {α : Type} {h : H} {b : Nat} {s : RS} {kind most : Int} {K : AV → H → Prop} (p : Rd α) (d : α) (g : Item → α) {first caps args : List AV} (hm : inI most) (hr : RIs h b s)
    (hg : g (runS (refRead kind most) item00 s).1 = (runS p d s).1 ∧ (runS (refRead kind most) item00 s).2 = (runS p d s).2) (ha : (first ++ args ++ caps).map wk = [.ptr b 0, .int .i64 kind, .int .i64 most])
    (hk : ∀ (y : Item) (s' : RS), g y = (runS p d s).1 → s' = (runS p d s).2 → RTo h b (h.set b (encRS s')) s' → Got p s (g y) s' → K (.agg (encItm y)) (h.set b (encRS s'))) : callQ Tryd.prog (.fn 30 first caps) args h K := by
  have hx := item_rd hr kind hm
  refine callQ_s hx.call ha (hk _ _ hg.1 hg.2 hx.to ?_)
  have := Got.runS p d s
  rw [← hg.1, ← hg.2] at this
  exact this
end Go.Proofs

/- The document's reader: templates, programs, footprints. -/
namespace Go.Proofs
open Go Go.RowKit Go.Am

theorem store_bad {s : RS} : List.take 1 (encRS s) ++ AV.bool true :: List.drop 2 (encRS s) = [(encRS s)[0]'(by cases s <;> simp [encRS]), .bool true] := by cases s <;> rfl

theorem refKey_rd {h : H} {b : Nat} {s : RS} (hr : RIs h b s) : RdQ 31 [.ptr b 0] h b s rdKey (fun k => .agg (encKeyT k)) := by
  refine RdQ.mk' hr (fun k => .agg (pures_cons (.int _ _) (pures1 (.int _ _)))) (CallP.run hb31 ok31 (by simp) ?_)
  have hb := hr.blt
  have z : ¬ b = h.bn := by omega
  have z' : ¬ h.bn = b := by omega
  have z2 : b < h.bn + 1 := by omega
  simp -implicitDefEqProofs []
  refine callQ_item rdSigned 0 (·.x) (by simp [inI]) (hr.alloc _) (item_signed s) (by simp) fun y1 s1 e1 _ q1 g1 => ?_
  simp -implicitDefEqProofs [encItm]
  refine callQ_item (rdCount 999) 0 (·.n) (by simp [inI]) q1.is (item_count 999 s1) (by simp) fun y2 s2 e2 _ q2 g2 => ?_
  have k2 := (RTo.al (RTo.refl hr) [.int .i64 0, .int .i64 0]).trans (q1.trans q2)
  by_cases h1 : y1.x < -1 ∨ 255 < y1.x
  · by_cases h2 : y1.x < -1
    focus
      simp -implicitDefEqProofs [encItm, h2, z', z2]
    rotate_left
    focus
      have h3 : 255 < y1.x := h1.resolve_left h2
      simp -implicitDefEqProofs [encItm, h2, h3, z', z2]
    all_goals
      cases s2 with
      | none =>
        simp -implicitDefEqProofs [encRS]
        refine ⟨⟨y1.x, y2.n⟩, rfl, none, RFin.so (RFin.bad (v := .any1) ((k2.keep).trans (HF.set _ rfl)) (by simp)) (Nat.le_refl _) hb _, (fun l h => by cases h), ?_⟩
        exact g1.bind (by rw [if_pos h1]; exact Got.fail _ _)
      | some l =>
        simp -implicitDefEqProofs [encRS]
        refine ⟨⟨y1.x, y2.n⟩, rfl, none, RFin.so (RFin.bad (v := encW l) ((k2.keep).trans (HF.set _ rfl)) (by simp)) (Nat.le_refl _) hb _, (fun l h => by cases h), ?_⟩
        exact g1.bind (by rw [if_pos h1]; exact Got.fail _ _)
  have h2 : ¬ y1.x < -1 := fun h => h1 (.inl h)
  have h3 : ¬ 255 < y1.x := fun h => h1 (.inr h)
  simp -implicitDefEqProofs [encItm, h2, h3, z']
  refine ⟨⟨y1.x, y2.n⟩, rfl, s2, (k2.so (Nat.le_refl _) hb _).fin, k2.is.bd, ?_⟩
  exact g1.bind (by rw [if_neg h1]; exact g2.bind (Got.pure _ _))
end Go.Proofs

/- The document's reader of programs and footprints, whole. -/
namespace Go.Proofs
open Go Go.RowKit Go.Am

theorem item_bad {h : H} {b : Nat} {v : AV} (hb : b < h.bn) (hx : h.bx b = some [v, .bool true]) (kind most : Int) : SCall Tryd.prog 30 [.ptr b 0, .int .i64 kind, .int .i64 most] h (.agg (encItm item00)) h := by
  refine SCall.ro (CallP.run hb30 ok30 (by simp) ?_) (.agg (pure_encI _))
  have z0 : ¬ b = h.bn := by omega
  have z2 : b < h.bn + 1 := by omega
  simp -implicitDefEqProofs [hx, z0, z2, encItm, item00]
  exact (HF.alloc _ _ _ _).trans' (HF.set (B := (· = h.bn)) _ rfl) (fun x hx e => by have e : x = h.bn := e; omega) (fun _ _ h => h)
theorem callQ_ib {h : H} {b : Nat} {v : AV} {kind most : Int} {K : AV → H → Prop} {first caps args : List AV} (hb : b < h.bn) (hx : h.bx b = some [v, .bool true]) (ha : (first ++ args ++ caps).map wk = [.ptr b 0, .int .i64 kind, .int .i64 most])
    (hk : K (.agg (encItm item00)) h) : callQ Tryd.prog (.fn 30 first caps) args h K := callQ_s (item_bad hb hx kind most) ha hk
/-- A loop of reading that isn't right any more. -/
structure BLoop {α : Type} (h : H) (b : Nat) (s1 : RS) (p : Rd α) (j : Nat) (h1 : H) (v : AV) (L : List α) (t : Tok) : Prop where
  keep : HF h h1 (· = b) (fun _ => False)
  blt : b < h1.bn
  bx : h1.bx b = some [v, .bool true]
  got : ∀ L', Got (Rd.rep p j) s1 L' none
  len : L.length = j
  live : TLive h1 t j
  new : TNew h t
theorem len_encRS {s : RS} : (encRS s).length = 2 := by cases s <;> rfl

set_option maxHeartbeats 2000000 in
theorem refProgGet_rd {h : H} {b : Nat} {s : RS} (hr : RIs h b s) : RdS 10 [.ptr b 0] h b s rdProg [] (fun l => .sl .no (l.map encInst)) := by
  refine RdS.of hr rdProg_ok (fun l => elOK_Inst.pureL l) (CallP.run hb10 ok10 (by simp) ?_)
  have hb := hr.blt
  simp -implicitDefEqProofs []
  refine callQ_item (rdCount 8) 0 (·.n) (by simp [inI]) hr (item_count 8 s) (by simp) fun y0 s1 e0 e0' q g => ?_
  have hin := rdCount_in (most := 8) (by simp [inI]) s
  rw [← e0] at hin
  obtain ⟨N, hNe⟩ := Int.eq_ofNat_of_zero_le hin.1
  have hN : N ≤ 8 := by omega
  rw [hNe] at g
  simp -implicitDefEqProofs [encItm, hNe]
  refine run_loop (fun m S h1 => ∃ (j : Nat) (sj : RS) (L : List Inst) (t : Tok), m = N - j ∧ j ≤ N ∧ S 0 = .ptr b 0 ∧ S 4 = .sl t (L.map encInst) ∧ S 3 = .int .i64 N ∧ S 5 = .int .i64 j ∧ RLoop h b s1 rdInst j h1 sj L t) ?_ N ?_
  rotate_left
  · exact ⟨0, s1, [], .full, rfl, Nat.zero_le _, by simp, by simp, by simp, by simp, RLoop.start q⟩
  rintro m S h1 ⟨j, sj, L, t, hm, hj, t0, t4, t3, t5, hL⟩ ih
  have hbn : h.bn ≤ h1.bn := hL.to.keep.bn
  have hb1 : b < h1.bn := by omega
  have z0 : ¬ b = h1.bn := by omega
  have z1 : ¬ h1.bn = b := by omega
  by_cases hlt : j < N
  · have k0 := RTo.al (RTo.refl hL.to.is) [.int .i64 0, .int .i64 0, .int .i64 0, .int .i64 0, .int .i64 0, .int .i64 0, .int .i64 0, .int .i64 0, .int .i64 0]
    simp -implicitDefEqProofs [t0, t3, t5, hlt]
    refine callQ_item (rdCount 255) 0 (·.n) (by simp [inI]) k0.is (item_count 255 sj) (by simp) fun v1 u1 _ _ q1 g1 => ?_
    have k1 := RTo.so (k0.trans q1) (b' := h1.bn) (Nat.le_refl _) hb1 [.int .i64 v1.n, .int .i64 0, .int .i64 0, .int .i64 0, .int .i64 0, .int .i64 0, .int .i64 0, .int .i64 0, .int .i64 0]
    simp -implicitDefEqProofs [t0, z1, encItm]
    refine callQ_item (rdCount 255) 0 (·.n) (by simp [inI]) k1.is (item_count 255 u1) (by simp) fun v2 u2 _ _ q2 g2 => ?_
    have k2 := RTo.so (k1.trans q2) (b' := h1.bn) (Nat.le_refl _) hb1 [.int .i64 v1.n, .int .i64 v2.n, .int .i64 0, .int .i64 0, .int .i64 0, .int .i64 0, .int .i64 0, .int .i64 0, .int .i64 0]
    simp -implicitDefEqProofs [t0, z1, encItm]
    refine callQ_item (rdCount 255) 0 (·.n) (by simp [inI]) k2.is (item_count 255 u2) (by simp) fun v3 u3 _ _ q3 g3 => ?_
    have k3 := RTo.so (k2.trans q3) (b' := h1.bn) (Nat.le_refl _) hb1 [.int .i64 v1.n, .int .i64 v2.n, .int .i64 v3.n, .int .i64 0, .int .i64 0, .int .i64 0, .int .i64 0, .int .i64 0, .int .i64 0]
    simp -implicitDefEqProofs [t0, z1, encItm]
    refine callQ_item (rdCount 255) 0 (·.n) (by simp [inI]) k3.is (item_count 255 u3) (by simp) fun v4 u4 _ _ q4 g4 => ?_
    have k4 := RTo.so (k3.trans q4) (b' := h1.bn) (Nat.le_refl _) hb1 [.int .i64 v1.n, .int .i64 v2.n, .int .i64 v3.n, .int .i64 v4.n, .int .i64 0, .int .i64 0, .int .i64 0, .int .i64 0, .int .i64 0]
    simp -implicitDefEqProofs [t0, z1, encItm]
    refine callQ_r (refKey_rd k4.is) (by simp) fun v5 u5 q5 g5 => ?_
    have k5 := RTo.so (k4.trans q5) (b' := h1.bn) (Nat.le_refl _) hb1 [.int .i64 v1.n, .int .i64 v2.n, .int .i64 v3.n, .int .i64 v4.n, .int .i64 v5.arg, .int .i64 v5.base, .int .i64 0, .int .i64 0, .int .i64 0]
    simp -implicitDefEqProofs [t0, z1, encKeyT]
    refine callQ_r (refKey_rd k5.is) (by simp) fun v6 u6 q6 g6 => ?_
    have k6 := RTo.so (k5.trans q6) (b' := h1.bn) (Nat.le_refl _) hb1 [.int .i64 v1.n, .int .i64 v2.n, .int .i64 v3.n, .int .i64 v4.n, .int .i64 v5.arg, .int .i64 v5.base, .int .i64 v6.arg, .int .i64 v6.base, .int .i64 0]
    simp -implicitDefEqProofs [t0, z1, encKeyT]
    refine callQ_item rdSigned 0 (·.x) (by simp [inI]) k6.is (item_signed u6) (by simp) fun v7 u7 _ _ q7 g7 => ?_
    have k7 := RTo.so (k6.trans q7) (b' := h1.bn) (Nat.le_refl _) hb1 [.int .i64 v1.n, .int .i64 v2.n, .int .i64 v3.n, .int .i64 v4.n, .int .i64 v5.arg, .int .i64 v5.base, .int .i64 v6.arg, .int .i64 v6.base, .int .i64 v7.x]
    simp -implicitDefEqProofs [z1, encItm, t4]
    refine appQ_tok (t := t) (es := L.map encInst) (es2 := [encInst ⟨v1.n, v2.n, v3.n, v4.n, v5, v6, v7.x⟩]) (by simpa [hL.len] using hL.live) (by simp [encInst]) (by simp [srcA, encInst]) (by simp [hL.len]; omega) fun t' h3 p1 p2 p3 p4 => ?_
    have hg : Got rdInst sj ⟨v1.n, v2.n, v3.n, v4.n, v5, v6, v7.x⟩ u7 := g1.bind (g2.bind (g3.bind (g4.bind (g5.bind (g6.bind (g7.bind (Got.pure _ _)))))))
    have hl2 := hL.next hg (h2 := _) (h3 := h3) (t' := t') (hL.to.trans k7) (by simpa [hL.len] using p1) p2 p3
    simp -implicitDefEqProofs [t5, inc_i64 hlt (show N ≤ _ by omega), -Int.natCast_add]
    exact ih (N - (j + 1)) _ _ (by omega) ⟨j + 1, u7, _, t', rfl, by omega, by simp [t0], by simp, by simp [t3], by simp, hl2⟩
  · obtain rfl : j = N := by omega
    have hx := hL.to.is.bx
    have hlt2 := hL.to.is.blt
    have hgp : Got rdProg s L sj := g.bind (by rw [Int.toNat_natCast]; exact hL.got)
    simp -implicitDefEqProofs [t0, t3, t5, hx, hlt2, len_encRS]
    cases sj with
    | none =>
      simp -implicitDefEqProofs [encRS]
      exact ⟨none, hL.to.fin, Got.any hgp _⟩
    | some l =>
      simp -implicitDefEqProofs [encRS, t4]
      exact ⟨L, rfl, some l, hL.to.fin, hgp, (fun h => by cases h)⟩

end Go.Proofs

/- Breakpoints: the document's answer and the program's. -/
namespace Go.Proofs
open Go Go.RowKit Go.Am

def bitN (b i : Nat) : Bool := decide (b / 2 ^ i % 2 = 1)
def Ctlg.inn (x : Ctlg) (c : Int) : Bool := decide (0 ≤ c) && decide (c < (x.classes.length : Int)) && decide (c < 4)
def Ctlg.brkAt (x : Ctlg) (c d i : Int) : Bool := x.inn c && x.inn d && decide (0 ≤ i) && decide (i + 1 < (x.stepsN c.toNat : Int)) && bitN (x.brk c.toNat d.toNat).toNat i.toNat

theorem Ctlg.take16 (x : Ctlg) (hb : x.breaks.length = 16) : List.take 16 (x.breaks.map (AV.int .i64)) = x.breaks.map (AV.int .i64) := List.take_of_length_le (by simp [hb])

/-- The unit of a step, as the document counts: how many breakpoints there are before it. -/
def Ctlg.unitN (x : Ctlg) (c d : Int) (i : Nat) : Nat := ((List.range i).filter fun j : Nat => x.brkAt c d j).length

end Go.Proofs

/- Units: their bounds, the document's and the program's. -/
namespace Go.Proofs
open Go Go.RowKit Go.Am

/-! ### The plain law -/
def loF (p : Nat → Bool) : Nat → Nat
  | 0 => 0
  | i + 1 => if p i then i + 1 else loF p i
def hiF (p : Nat → Bool) : Nat → Nat → Nat
  | 0, i => i
  | k + 1, i => if p i then i else hiF p k (i + 1)

theorem loF_le (p : Nat → Bool) (i : Nat) : loF p i ≤ i := by
  induction i with
  | zero => simp [loF]
  | succ i ih => simp only [loF]; split <;> omega
theorem loF_no (p : Nat → Bool) (i : Nat) : ∀ j, loF p i ≤ j → j < i → p j = false := by
  induction i with
  | zero => intro j _ h; omega
  | succ i ih =>
    intro j h1 h2
    simp only [loF] at h1
    split at h1
    · omega
    · by_cases h : j = i
      · subst h; simp_all
      · exact ih j h1 (by omega)
theorem loF_at (p : Nat → Bool) (i : Nat) : loF p i = 0 ∨ p (loF p i - 1) = true := by
  induction i with
  | zero => simp [loF]
  | succ i ih =>
    simp only [loF]
    split
    · right; simpa
    · exact ih
theorem hiF_ge (p : Nat → Bool) (k i : Nat) : i ≤ hiF p k i ∧ hiF p k i ≤ i + k := by
  induction k generalizing i with
  | zero => simp [hiF]
  | succ k ih =>
    simp only [hiF]
    have := ih (i + 1)
    split <;> omega
theorem hiF_no (p : Nat → Bool) (k i : Nat) : ∀ j, i ≤ j → j < hiF p k i → p j = false := by
  induction k generalizing i with
  | zero => intro j h1 h2; simp only [hiF] at h2; omega
  | succ k ih =>
    intro j h1 h2
    simp only [hiF] at h2
    split at h2
    · omega
    · by_cases h : j = i
      · subst h; simp_all
      · exact ih (i + 1) j (by omega) h2
theorem hiF_at (p : Nat → Bool) (k i : Nat) : hiF p k i = i + k ∨ p (hiF p k i) = true := by
  induction k generalizing i with
  | zero => simp [hiF]
  | succ k ih =>
    simp only [hiF]
    split
    · right; assumption
    · rcases ih (i + 1) with h | h
      · left; omega
      · right; exact h

/-- How many there are below. -/
def cntF (p : Nat → Bool) : Nat → Nat
  | 0 => 0
  | j + 1 => cntF p j + if p j then 1 else 0
theorem cntF_mono (p : Nat → Bool) {a b : Nat} (h : a ≤ b) : cntF p a ≤ cntF p b := by
  induction b with
  | zero => have : a = 0 := by omega
            subst this; exact Nat.le_refl _
  | succ b ih =>
    by_cases hb : a = b + 1
    · subst hb; exact Nat.le_refl _
    · have := ih (by omega)
      simp only [cntF]; omega
theorem cntF_same (p : Nat → Bool) {a b : Nat} (h : a ≤ b) (hn : ∀ j, a ≤ j → j < b → p j = false) : cntF p a = cntF p b := by
  induction b with
  | zero => have : a = 0 := by omega
            subst this; rfl
  | succ b ih =>
    by_cases hb : a = b + 1
    · subst hb; rfl
    · have h1 := ih (by omega) fun j h1 h2 => hn j h1 (by omega)
      have h2 := hn b (by omega) (by omega)
      simp [cntF, h1, h2]
theorem cntF_iff (p : Nat → Bool) {n i k : Nat} (hi : i < n) (hk : k < n) : cntF p k = cntF p i ↔ loF p i ≤ k ∧ k ≤ hiF p (n - 1 - i) i := by
  have l1 := loF_le p i
  have l2 := loF_no p i
  have l3 := loF_at p i
  have g1 := hiF_ge p (n - 1 - i) i
  have g2 := hiF_no p (n - 1 - i) i
  have g3 := hiF_at p (n - 1 - i) i
  generalize loF p i = lo at *
  generalize hiF p (n - 1 - i) i = hh at *
  constructor
  · intro he
    constructor
    · apply Nat.le_of_not_lt
      intro hlt
      rcases l3 with h | h
      · omega
      · have a1 := cntF_mono p (show k ≤ lo - 1 by omega)
        have a2 : cntF p (lo - 1 + 1) = cntF p (lo - 1) + 1 := by simp [cntF, h]
        have a3 := cntF_mono p (show lo - 1 + 1 ≤ i by omega)
        omega
    · apply Nat.le_of_not_lt
      intro hlt
      rcases g3 with h | h
      · omega
      · have a1 := cntF_mono p (show i ≤ hh by omega)
        have a2 : cntF p (hh + 1) = cntF p hh + 1 := by simp [cntF, h]
        have a3 := cntF_mono p (show hh + 1 ≤ k by omega)
        omega
  · rintro ⟨h1, h2⟩
    by_cases hki : k ≤ i
    · exact cntF_same p hki fun j q1 q2 => l2 j (by omega) q2
    · exact (cntF_same p (show i ≤ k by omega) fun j q1 q2 => g2 j q1 (by omega)).symm

theorem Ctlg.unitN_cnt (x : Ctlg) (c d : Int) (i : Nat) : x.unitN c d i = cntF (fun j : Nat => x.brkAt c d j) i := by
  induction i with
  | zero => simp [unitN, cntF]
  | succ i ih =>
    unfold unitN at ih ⊢
    rw [List.range_succ, List.filter_append, List.length_append, ih]
    by_cases h : x.brkAt c d i <;> simp [cntF, h]

def Ctlg.lo (x : Ctlg) (c d : Int) (i : Nat) : Nat := loF (fun j : Nat => x.brkAt c d j) i
def Ctlg.hi (x : Ctlg) (c d : Int) (i : Nat) : Nat := hiF (fun j : Nat => x.brkAt c d j) (x.stepsN c.toNat - 1 - i) i
def Ctlg.inb (x : Ctlg) (c d i : Int) : Bool := x.inn c && x.inn d && decide (0 ≤ i) && decide (i < (x.stepsN c.toNat : Int))
def bndV (x : Ctlg) (c d i : Int) : AV := if x.inb c d i then .tup [.int .i64 (x.lo c d i.toNat), .int .i64 (x.hi c d i.toNat), .bool true] else .tup [.int .i64 0, .int .i64 0, .bool false]

theorem pure_bndV (x : Ctlg) (c d i : Int) : PureV (bndV x c d i) := by
  unfold bndV
  split
  · exact .tup (pures_cons (.int _ _) (pures_cons (.int _ _) (pures1 (.bool _))))
  · exact .tup (pures_cons (.int _ _) (pures_cons (.int _ _) (pures1 (.bool _))))

/-! ### The document's -/
/-! ### The program's -/
theorem bit_and {b i : Nat} (hb : b < 9223372036854775808) (hi : i ≤ 64) : IntKind.i64.wrap (((((b : Int).fdiv (2 ^ shAmt IntKind.i64 i) % 2 ^ IntKind.i64.bits).toNat &&& ((1 : Int) % 2 ^ IntKind.i64.bits).toNat : Nat)) : Int) = ((b / 2 ^ i % 2 : Nat) : Int) := by
  have e1 : shAmt IntKind.i64 (i : Int) = i := by simp only [shAmt, Int.toNat_natCast]; exact Nat.min_eq_left hi
  have e2 : (b : Int).fdiv (2 ^ i) = ((b / 2 ^ i : Nat) : Int) := by
    rw [Int.fdiv_eq_ediv_of_nonneg _ (by exact Int.pow_nonneg (by omega))]
    push_cast
    rfl
  have e3 : IntKind.i64.bits = 64 := rfl
  have hq : b / 2 ^ i ≤ b := Nat.div_le_self _ _
  rw [e1, e2, e3]
  generalize b / 2 ^ i = q at hq ⊢
  have e5 : ((q : Int) % 2 ^ 64).toNat = q := by omega
  have e6 : ((1 : Int) % 2 ^ 64).toNat = 1 := by decide
  rw [e5, e6, Nat.and_one_is_mod, wrap_i64] <;> omega

structure Ctlg.good (x : Ctlg) : Prop where
  wf : x.wf
  n4 : x.classes.length ≤ 4
  s4 : ∀ c (h : c < x.classes.length), x.classes[c].steps.length ≤ 4
  nn : ∀ c d, 0 ≤ x.brk c d

end Go.Proofs

/- Units: their bounds, the program's; whether a place is open. -/
namespace Go.Proofs
open Go Go.RowKit Go.Am

/-- Is the place before a step open? -/
def Ctlg.openAt (x : Ctlg) (c d i : Int) : Bool := x.inb c d (i - 1) && decide (i - 1 < (x.hi c d (i - 1).toNat : Int))
end Go.Proofs

/- Units: the law's own first look; catalogues that are opened and closed. -/
namespace Go.Proofs
open Go Go.RowKit Go.Am

def aliveC : Ctlg := ⟨[⟨⟨#[97]⟩, 0, List.replicate 3 ⟨[⟨5, 0, 0, 0, ⟨0, 0⟩, ⟨0, 0⟩, 0⟩], []⟩, List.replicate 3 ⟨[], []⟩, false⟩], 2 :: List.replicate 15 0⟩
theorem aliveC_good : aliveC.good where
  wf := by
    refine ⟨⟨by decide, ?_⟩, by decide, ?_⟩
    · intro y hy
      simp only [aliveC, List.mem_singleton] at hy
      subst hy
      refine ⟨by decide, by simp [inI], ⟨by decide, ?_⟩, by decide, ?_⟩
      · intro y hy
        obtain rfl := List.eq_of_mem_replicate hy
        refine ⟨⟨by decide, ?_⟩, by decide, by simp⟩
        intro y hy
        simp only [List.mem_singleton] at hy
        subst hy
        simp [Inst.wf, KeyT.wf, inI]
      · intro y hy
        obtain rfl := List.eq_of_mem_replicate hy
        exact ⟨⟨by decide, by simp⟩, by decide, by simp⟩
    · intro y hy
      simp only [aliveC, List.mem_cons, List.mem_replicate] at hy
      rcases hy with rfl | ⟨_, rfl⟩ <;> simp [inI]
  n4 := by decide
  s4 := by
    intro c h
    simp [aliveC] at h
    subst h
    simp [aliveC]
  nn := by
    intro c d
    have : ∀ k : Nat, 0 ≤ (aliveC.breaks[k]?).getD 0 := by
      intro k
      rcases h : aliveC.breaks[k]? with _ | v
      · simp
      · have := List.mem_of_getElem? h
        simp only [aliveC, List.mem_cons, List.mem_replicate] at this
        rcases this with rfl | ⟨_, rfl⟩ <;> simp
    exact this (4 * c + d)

end Go.Proofs

/- Catalogues that are copied. -/
namespace Go.Proofs
open Go Go.RowKit Go.Am

section
variable {α : Type} {enc : α → List AV} {z : Nat}
theorem flatM_len (he : ∀ x, (enc x).length = z) (l : List α) : (l.map enc).flatten.length = l.length * z := by
  rw [flatten_len (z := z) (by simp [he]), List.length_map]
theorem chunks_of (he : ∀ x, (enc x).length = z) : ∀ (l : List α) (r : List AV), chunks z l.length ((l.map enc).flatten ++ r) = l.map enc
  | [], _ => rfl
  | x :: l, r => by
    have e1 : (enc x).length = z := he x
    simp only [List.map_cons, List.flatten_cons, List.length_cons, chunks, List.append_assoc]
    rw [List.take_left' e1, List.drop_left' e1, chunks_of he l]
theorem flat_take (he : ∀ x, (enc x).length = z) : ∀ (l : List α) (j : Nat) (h : j < l.length), List.take z (List.drop (j * z) (l.map enc).flatten) = enc l[j]
  | x :: l, 0, _ => by simp [List.take_left' (he x)]
  | x :: l, j + 1, h => by
    rw [List.map_cons, List.flatten_cons, show (j + 1) * z = (enc x).length + j * z by rw [he x, Nat.add_mul]; omega, ← List.drop_drop, List.drop_left' rfl, flat_take he l j (by simpa using h)]
    rfl
theorem flat_set (he : ∀ x, (enc x).length = z) : ∀ (l : List α) (j : Nat) (y : α), j < l.length → List.take (j * z) (l.map enc).flatten ++ (enc y ++ List.drop (j * z + z) (l.map enc).flatten) = ((l.set j y).map enc).flatten
  | x :: l, 0, y, _ => by simp [List.drop_left' (he x)]
  | x :: l, j + 1, y, h => by
    have ih := flat_set he l j y (by simpa using h)
    rw [List.map_cons, List.flatten_cons, show (j + 1) * z = (enc x).length + j * z by rw [he x, Nat.add_mul]; omega, List.take_length_add_append, Nat.add_assoc, ← List.drop_drop, List.drop_left' rfl, List.append_assoc, ih]
    rfl
end

def Stp.small (s : Stp) : Prop := s.code.length ≤ 8 ∧ s.foot.length ≤ 4

def Cls.small (c : Cls) : Prop := 0 < c.steps.length ∧ c.steps.length ≤ 4 ∧ c.comps.length = c.steps.length ∧ (∀ s ∈ c.steps, s.small) ∧ ∀ s ∈ c.comps, s.small
def Ctlg.small (x : Ctlg) : Prop := 0 < x.classes.length ∧ x.classes.length ≤ 4 ∧ (∀ c ∈ x.classes, c.small) ∧ x.breaks.length = 16

theorem put_same {F : List AV} {k : Nat} {v : AV} (h : F[k]? = some v) : List.take k F ++ v :: List.drop (k + 1) F = F := by
  obtain ⟨hk, rfl⟩ := List.getElem?_eq_some_iff.1 h
  rw [← List.drop_eq_getElem_cons hk, List.take_append_drop]
theorem flatC_get (l : List Cls) {j k : Nat} (hj : j < l.length) (hk : k < 5) : (l.map encCls).flatten[j * 5 + k]? = some ((encCls l[j])[k]'(by simpa using hk)) := by
  rw [flatten_get (z := 5) (by simp) j k hk, List.getElem?_map, List.getElem?_eq_getElem hj]
  simp []

/-- A catalogue with other breakpoints. -/
def Ctlg.with (x : Ctlg) (l : List Int) : Ctlg := ⟨x.classes, l⟩
def closedOf (x : Ctlg) : Ctlg := x.with (List.replicate 16 0)

def Cls.all (c : Cls) : Int := 2 ^ (c.steps.length - 1) - 1
end Go.Proofs

/- Pairs of classes, by a function over which one ranges; a catalogue that is opened. -/
namespace Go.Proofs
open Go Go.RowKit Go.Am

/-- The breakpoints that are turned, after so many pairs. -/
def turnL (n : Nat) (t : Nat → Nat → Int) (k : Nat) : List Int := (List.range 16).map fun i => if i / 4 < n ∧ i % 4 < n ∧ i / 4 * n + i % 4 < k then t (i / 4) (i % 4) else 0

theorem turnL_len (n : Nat) (t : Nat → Nat → Int) (k : Nat) : (turnL n t k).length = 16 := by simp [turnL]
theorem turnL_get (n : Nat) (t : Nat → Nat → Int) (k : Nat) {i : Nat} (hi : i < (turnL n t k).length) : (turnL n t k)[i] = if i / 4 < n ∧ i % 4 < n ∧ i / 4 * n + i % 4 < k then t (i / 4) (i % 4) else 0 := by
  simp [turnL]
theorem turnL_step {n : Nat} (n4 : n ≤ 4) (t : Nat → Nat → Int) {c d : Nat} (hc : c < n) (hd : d < n) : List.take (c * 4 + d) ((turnL n t (c * n + d)).map (AV.int .i64)) ++ AV.int .i64 (t c d) :: List.drop (c * 4 + d + 1) ((turnL n t (c * n + d)).map (AV.int .i64)) = (turnL n t (c * n + d + 1)).map (AV.int .i64) := by
  have hl := turnL_len n t (c * n + d)
  have hl2 := turnL_len n t (c * n + d + 1)
  have key : turnL n t (c * n + d + 1) = (turnL n t (c * n + d)).set (c * 4 + d) (t c d) := by
    apply List.ext_getElem
    · simp [hl, hl2]
    intro i h1 h2
    rw [List.getElem_set, turnL_get]
    by_cases h : c * 4 + d = i
    · subst h
      have e1 : (c * 4 + d) / 4 = c := by omega
      have e2 : (c * 4 + d) % 4 = d := by omega
      rw [e1, e2, if_pos ⟨hc, hd, by omega⟩, if_pos rfl]
    · rw [if_neg h, turnL_get]
      have e : (i / 4 < n ∧ i % 4 < n ∧ i / 4 * n + i % 4 < c * n + d + 1) ↔ (i / 4 < n ∧ i % 4 < n ∧ i / 4 * n + i % 4 < c * n + d) := by
        constructor
        · rintro ⟨a, b, e⟩
          refine ⟨a, b, ?_⟩
          have hne : i / 4 * n + i % 4 ≠ c * n + d := fun he => by
            have q1 : i / 4 = c := by
              rcases Nat.lt_trichotomy (i / 4) c with q | q | q
              · have := Nat.mul_le_mul_right n (show i / 4 + 1 ≤ c by omega)
                rw [Nat.add_mul] at this; omega
              · exact q
              · have := Nat.mul_le_mul_right n (show c + 1 ≤ i / 4 by omega)
                rw [Nat.add_mul] at this; omega
            rw [q1] at he
            omega
          omega
        · rintro ⟨a, b, e⟩
          exact ⟨a, b, by omega⟩
      simp only [e]
  rw [key, List.map_set, List.set_eq_take_append_cons_drop, if_pos (by simp [hl]; omega)]

def openT (x : Ctlg) (c _ : Nat) : Int := if h : c < x.classes.length then x.classes[c].all else 0
def openOf (x : Ctlg) : Ctlg := x.with (turnL x.classes.length (openT x) (x.classes.length * x.classes.length))

theorem Ctlg.with_len (x : Ctlg) (l : List Int) : (x.with l).classes = x.classes := rfl
end Go.Proofs

/- What a catalogue that may be is; its opened and its closed one. -/
namespace Go.Proofs
open Go Go.RowKit Go.Am

theorem progMay_len {l : List Inst} {a : Int} (h : progMay l a = true) : l.length ≤ 8 := by
  simp only [progMay, Bool.and_eq_true, Bool.not_eq_true', decide_eq_false_iff_not] at h
  omega
theorem footMay_len {l : List SpanT} {a : Int} (h : footMay l a = true) : l.length ≤ 4 := by
  simp only [footMay, Bool.and_eq_true, Bool.not_eq_true', decide_eq_false_iff_not] at h
  omega
theorem stepMay_small {a : Int} {p : Stp × Stp} (h : stepMay a p = true) : p.1.small ∧ p.2.small := by
  simp only [stepMay, backMay, Bool.and_eq_true, Bool.or_eq_true, Bool.not_eq_true', decide_eq_false_iff_not] at h
  obtain ⟨⟨⟨h1, h2⟩, h3⟩, h4, _⟩ := h
  refine ⟨⟨progMay_len h1, footMay_len h2⟩, ?_, footMay_len h3⟩
  rcases h4 with h | h
  · omega
  · exact progMay_len h
theorem clsMay_small {c : Cls} (h : clsMay c = true) : c.small := by
  simp only [clsMay, Bool.and_eq_true, Bool.not_eq_true', decide_eq_false_iff_not, decide_eq_true_eq] at h
  obtain ⟨⟨⟨_, h5⟩, h6⟩, h7⟩ := h
  have key : ∀ j (h1 : j < c.steps.length) (h2 : j < c.comps.length), c.steps[j].small ∧ c.comps[j].small := fun j h1 h2 => by
    rw [List.all_eq_true] at h7
    have hz : j < (c.steps.zip c.comps).length := by rw [List.length_zip]; omega
    have := stepMay_small (h7 _ (List.getElem_mem hz))
    rwa [List.getElem_zip] at this
  refine ⟨by omega, by omega, h6, fun s hs => ?_, fun s hs => ?_⟩
  · obtain ⟨j, hj, rfl⟩ := List.mem_iff_getElem.1 hs
    exact (key j hj (by omega)).1
  · obtain ⟨j, hj, rfl⟩ := List.mem_iff_getElem.1 hs
    exact (key j (by omega) hj).2
theorem catMay_small {x : Ctlg} (hw : x.wf) (h : catMay x = true) : x.small ∧ x.good := by
  simp only [catMay, Bool.and_eq_true, Bool.not_eq_true', decide_eq_false_iff_not] at h
  obtain ⟨⟨⟨h1, h2⟩, h3⟩, h4⟩ := h
  have hc : ∀ c (h : c < x.classes.length), x.classes[c].small := fun c h => by
    rw [List.all_eq_true] at h3
    have := h3 c (List.mem_range.2 h)
    rw [Bool.and_eq_true, Ctlg.clsOK_of h] at this
    exact clsMay_small this.1
  refine ⟨⟨by omega, by omega, fun c hc' => ?_, hw.2.1⟩, hw, by omega, fun c h => (hc c h).2.1, fun c d => ?_⟩
  · obtain ⟨j, hj, rfl⟩ := List.mem_iff_getElem.1 hc'
    exact hc j hj
  · have hk : ∀ k : Nat, 0 ≤ (x.breaks[k]?).getD 0 := fun k => by
      by_cases hk : k < 16
      · rw [List.all_eq_true] at h4
        have := h4 (k / 4) (List.mem_range.2 (by omega))
        rw [List.all_eq_true] at this
        have := this (k % 4) (List.mem_range.2 (by omega))
        simp only [Ctlg.brkOK, Bool.and_eq_true, Bool.not_eq_true', decide_eq_false_iff_not] at this
        have e : x.brk (k / 4) (k % 4) = (x.breaks[k]?).getD 0 := by rw [Ctlg.brk, show 4 * (k / 4) + k % 4 = k by omega]
        omega
      · rw [List.getElem?_eq_none (by have := hw.2.1; omega)]
        simp
    exact hk _

theorem all_le (c : Cls) (h : c.small) : 0 ≤ c.all ∧ c.all ≤ 7 := by
  obtain ⟨h0, h4, _⟩ := h
  have hl : c.steps.length = 1 ∨ c.steps.length = 2 ∨ c.steps.length = 3 ∨ c.steps.length = 4 := by omega
  rcases hl with hl | hl | hl | hl <;> simp [Cls.all, hl]
theorem openT_le {x : Ctlg} (hx : x.small) (c d : Nat) : 0 ≤ openT x c d ∧ openT x c d ≤ 7 := by
  unfold openT
  split
  · exact all_le _ (hx.2.2.1 _ (List.getElem_mem _))
  · omega
theorem turnL_all {n : Nat} {t : Nat → Nat → Int} {k : Nat} {Q : Int → Prop} (h0 : Q 0) (ht : ∀ c d, Q (t c d)) : ∀ y ∈ turnL n t k, Q y := fun y hy => by
  obtain ⟨j, hj, rfl⟩ := List.mem_iff_getElem.1 hy
  rw [turnL_get]
  split
  · exact ht _ _
  · exact h0
theorem with_good {x : Ctlg} (_ : x.small) (hg : x.good) {l : List Int} (hl : l.length = 16) (h : ∀ y ∈ l, 0 ≤ y ∧ y ≤ 7) : (x.with l).good where
  wf := ⟨hg.wf.1, hl, fun y hy => by have := h y hy; simp only [inI]; omega⟩
  n4 := hg.n4
  s4 := hg.s4
  nn := fun c d => by
    unfold Ctlg.brk
    rcases h2 : (x.with l).breaks[4 * c + d]? with _ | v
    · simp
    · exact (h v (List.mem_of_getElem? h2)).1
theorem open_good {x : Ctlg} (hx : x.small) (hg : x.good) : (openOf x).good := with_good hx hg (turnL_len _ _ _) (turnL_all (by omega) (openT_le hx))
theorem closed_good {x : Ctlg} (hx : x.small) (hg : x.good) : (closedOf x).good := with_good hx hg (by simp) (fun y hy => by rw [List.eq_of_mem_replicate hy]; omega)

theorem open_at {x : Ctlg} (hx : x.small) {c d : Nat} (hc : c < x.classes.length) (hd : d < x.classes.length) (j : Nat) : (openOf x).brkAt c d j = decide (j + 1 < x.classes[c].steps.length) := by
  have hn := hx.2.1
  have hcl : (openOf x).classes = x.classes := rfl
  have hb : (openOf x).brk c d = x.classes[c].all := by
    rw [Ctlg.brk_of (turnL_len _ _ _) (by omega) (by omega)]
    show (turnL x.classes.length (openT x) (x.classes.length * x.classes.length))[4 * c + d]'(by rw [turnL_len]; omega) = _
    rw [turnL_get, show (4 * c + d) / 4 = c by omega, show (4 * c + d) % 4 = d by omega, if_pos]
    · simp [openT, hc]
    · refine ⟨hc, hd, ?_⟩
      have := Nat.mul_le_mul_right x.classes.length (show c + 1 ≤ x.classes.length by omega)
      rw [Nat.add_mul] at this
      omega
  have hs : (openOf x).stepsN c = x.classes[c].steps.length := Ctlg.stepsN_of (x := openOf x) hc
  have hi : ∀ k : Nat, k < x.classes.length → (openOf x).inn k = true := fun k hk => by
    simp only [Ctlg.inn, hcl, Bool.and_eq_true, decide_eq_true_eq]
    omega
  simp only [Ctlg.brkAt, hi c hc, hi d hd, Int.toNat_natCast, hs, hb, Bool.true_and]
  have hsm := hx.2.2.1 _ (List.getElem_mem hc)
  obtain ⟨h0, h4, _⟩ := hsm
  by_cases hj : j + 1 < x.classes[c].steps.length
  · have hl : x.classes[c].steps.length = 2 ∨ x.classes[c].steps.length = 3 ∨ x.classes[c].steps.length = 4 := by omega
    have hj3 : j = 0 ∨ j = 1 ∨ j = 2 := by omega
    have e1 : decide ((0 : Int) ≤ (j : Nat)) = true := by simp
    have e2 : decide ((j : Int) + 1 < x.classes[c].steps.length) = true := by simp; omega
    rw [e1, e2, decide_eq_true hj]
    rcases hl with hl | hl | hl <;> rcases hj3 with rfl | rfl | rfl <;> first | omega | (simp [Cls.all, hl, bitN])
  · have e2 : decide ((j : Int) + 1 < x.classes[c].steps.length) = false := by simp; omega
    rw [e2, decide_eq_false hj]
    simp
theorem closed_at (x : Ctlg) (c d : Int) (j : Nat) : (closedOf x).brkAt c d j = false := by
  have hb : ∀ c d, (closedOf x).brk c d = 0 := fun c d => by
    unfold Ctlg.brk closedOf Ctlg.with
    rcases h2 : (List.replicate 16 (0 : Int))[4 * c + d]? with _ | v
    · simp []
    · have := List.eq_of_mem_replicate (List.mem_of_getElem? h2)
      simp [this]
  simp [Ctlg.brkAt, hb, bitN]
end Go.Proofs
