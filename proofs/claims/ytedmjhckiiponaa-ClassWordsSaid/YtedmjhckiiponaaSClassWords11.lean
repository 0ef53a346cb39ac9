/- What the functions that the statement reaches do: their contracts; and what follows of it. -/
import Derived.Test.YtedmjhckiiponaaSClassWords10
import Derived.Test.YtedmjhckiiponaaSClassWords4
import Derived.Test.YtedmjhckiiponaaSClassWords5
/- What is read as a template, an instruction, a span, a program, a footprint, a class: plain laws; contracts of readers. -/
namespace Go.Proofs
open Go Go.RowKit Go.Am

def Rd.none {α : Type} : Rd α := fun _ => Option.none
def Rd.rep {α : Type} (p : Rd α) : Nat → Rd (List α)
  | 0 => Rd.pure []
  | k + 1 => (Rd.rep p k).bind fun L => p.bind fun a => Rd.pure (L ++ [a])
def rdKey : Rd KeyT := rdSigned.bind fun a => if a < -1 ∨ 255 < a then Rd.none else (rdCount 999).bind fun n => Rd.pure ⟨a, n⟩
def rdInst : Rd Inst := (rdCount 255).bind fun op => (rdCount 255).bind fun a => (rdCount 255).bind fun b => (rdCount 255).bind fun c => rdKey.bind fun k => rdKey.bind fun l => rdSigned.bind fun x => Rd.pure ⟨op, a, b, c, k, l, x⟩
def rdSpanT : Rd SpanT := rdKey.bind fun lo => rdKey.bind fun hi => rdFlag.bind fun w => Rd.pure ⟨lo, hi, w⟩
def rdProg : Rd (List Inst) := (rdCount 8).bind fun n => Rd.rep rdInst n.toNat
def rdFoot : Rd (List SpanT) := (rdCount 4).bind fun n => Rd.rep rdSpanT n.toNat
def rdStp : Rd Stp := rdProg.bind fun c => rdFoot.bind fun f => Rd.pure ⟨c, f⟩
def rdPair : Rd (Stp × Stp) := rdStp.bind fun s => rdStp.bind fun u => Rd.pure (s, u)
def rdCls : Rd Cls := rdText.bind fun name => (rdCount 3).bind fun args => (rdCount 4).bind fun n => (Rd.rep rdPair n.toNat).bind fun l => rdFlag.bind fun r => Rd.pure ⟨name, args, l.map (·.1), l.map (·.2), r⟩

theorem Got.fail {α : Type} (s : RS) (a : α) : Got (Rd.none) s a none := by cases s <;> simp [Got, Rd.none]
theorem Got.bad {α : Type} {p : Rd α} {s' : RS} {a : α} (h : Got p none a s') : s' = none := h
/-- Where it isn't right, the value doesn't count. -/
theorem Got.any {α : Type} {p : Rd α} {s : RS} {a : α} (h : Got p s a none) (b : α) : Got p s b none := by
  unfold Got at h ⊢
  cases hp : s.bind p with
  | none => rfl
  | some x => rw [hp] at h; obtain ⟨_, h2⟩ := h; cases h2
theorem Got.eq {α : Type} {p : Rd α} {s : RS} {a : α} {l' : List Nat} (h : Got p s a (some l')) (d : α) : Proofs.runS p d s = (a, some l') := by
  unfold Got at h
  unfold Proofs.runS
  cases hp : s.bind p with
  | none => rw [hp] at h; cases h
  | some x => rw [hp] at h; obtain ⟨rfl, h2⟩ := h; cases h2; rfl
theorem Got.none_eq {α : Type} {p : Rd α} {s : RS} {a : α} (h : Got p s a none) (d : α) : Proofs.runS p d s = (d, none) := by
  unfold Got at h
  unfold Proofs.runS
  cases hp : s.bind p with
  | none => rfl
  | some x => rw [hp] at h; obtain ⟨_, h2⟩ := h; cases h2

theorem RdOK.none {α : Type} : RdOK (Rd.none (α := α)) := fun l a l' h => by cases h
theorem RdOK.rep {α : Type} {p : Rd α} (hp : RdOK p) : ∀ k, RdOK (Rd.rep p k)
  | 0 => RdOK.pure _
  | k + 1 => (RdOK.rep hp k).bind fun _ => hp.bind fun _ => RdOK.pure _
theorem rdKey_ok : RdOK rdKey := (rdSigned_ok).bind fun a => by
  split
  · exact RdOK.none
  · exact (rdCount_ok _).bind fun _ => RdOK.pure _
theorem rdInst_ok : RdOK rdInst := (rdCount_ok _).bind fun _ => (rdCount_ok _).bind fun _ => (rdCount_ok _).bind fun _ => (rdCount_ok _).bind fun _ => rdKey_ok.bind fun _ => rdKey_ok.bind fun _ => rdSigned_ok.bind fun _ => RdOK.pure _
theorem rdSpanT_ok : RdOK rdSpanT := rdKey_ok.bind fun _ => rdKey_ok.bind fun _ => rdFlag_ok.bind fun _ => RdOK.pure _
theorem rdProg_ok : RdOK rdProg := (rdCount_ok _).bind fun _ => rdInst_ok.rep _
theorem rdFoot_ok : RdOK rdFoot := (rdCount_ok _).bind fun _ => rdSpanT_ok.rep _
theorem rdStp_ok : RdOK rdStp := rdProg_ok.bind fun _ => rdFoot_ok.bind fun _ => RdOK.pure _
theorem rdPair_ok : RdOK rdPair := rdStp_ok.bind fun _ => rdStp_ok.bind fun _ => RdOK.pure _
theorem rdCls_ok : RdOK rdCls := rdText_ok.bind fun _ => (rdCount_ok _).bind fun _ => (rdCount_ok _).bind fun _ => (rdPair_ok.rep _).bind fun _ => rdFlag_ok.bind fun _ => RdOK.pure _

theorem CutOK.upd {P : Program} {h h1 : H} {b : Nat} {cs cs1 : List AV} {r1 r : AV} (hb : b < h.bn) (e : wk r1 = r) (hf : HF h h1 (· = b) (fun _ => False)) (hb1 : h1.bx b = some cs1) (hcs1 : WkL cs1 cs) (hr : PureV r) (hcs : ∀ v ∈ cs, PureV v) : CutOK h h1 (h.set b cs) id r1 r := by
  refine ⟨Nat.le_refl _, fun _ _ => rfl, fun b hb => Nat.lt_of_lt_of_le hb hf.bn, fun _ _ _ _ h => h, fun b' cs' hb' hcs' => ?_, ⟨Nat.le_refl _, hf.tn⟩, fun i hi => (hf.tk i hi fun h => h).symm, ⟨rfl, hf.ln⟩,
    fun l q hl hq => ⟨(hf.lp l hl).trans hq, q, hq, rfl⟩, ⟨rfl, hf.mn⟩, fun m es hm hes => ⟨(hf.mp m hm).trans hes, hes⟩, Low.weak' ?_⟩
  · by_cases hbb : b' = b
    · subst hbb
      have : cs = cs' := by simpa [H.set] using hcs'
      subst this
      exact .inr ⟨cs1, hb1, hcs1, fun v hv => (hcs v hv).low _ _ _ _ _⟩
    · have : h.bx b' = some cs' := by simpa [H.set, hbb] using hcs'
      exact .inl ⟨hb', (hf.bx b' hb' hbb).trans this, this⟩
  · rw [e]
    exact hr.low _ _ _ _ _

/-- A piece of reading, whatever it hands back where it isn't right. -/
def RdQ {α : Type} (f : FuncId) (args : List AV) (h : H) (b : Nat) (s : RS) (p : Rd α) (enc : α → AV) : Prop :=
  CallP Try.prog f args h fun r h1 => ∃ a s', r = enc a ∧ h1 = h.set b (encRS s') ∧ RTo h b h1 s' ∧ Got p s a s'
theorem RdQ.mk' {α : Type} {f : FuncId} {args : List AV} {h : H} {b : Nat} {s : RS} {p : Rd α} {enc : α → AV} (hr : RIs h b s) (hv : ∀ a, PureV (enc a))
    (hc : CallP Try.prog f args h fun r h1 => ∃ a s', wk r = enc a ∧ RFin h b h1 s' ∧ Bd s' ∧ Got p s a s') : RdQ f args h b s p enc :=
  hc.cut fun r h1 ⟨a, s', e, ⟨hf, cs1, hb1, hcs1⟩, hbd, hg⟩ => ⟨h.set b (encRS s'), id, enc a, CutOK.upd (P := Try.prog) hr.blt e hf hb1 hcs1 (hv a) (pure_encRS _), a, s', rfl, rfl, RTo.set hr hbd, hg⟩
theorem RdS.q {α : Type} {f : FuncId} {args : List AV} {h : H} {b : Nat} {s : RS} {p : Rd α} {d : α} {enc : α → AV} (hc : RdS f args h b s p d enc) : RdQ f args h b s p enc :=
  hc.call.callP ⟨_, _, rfl, rfl, hc.to, Got.runS p d s⟩
theorem callQ_r {α : Type} {f : FuncId} {first caps args as' : List AV} {h : H} {b : Nat} {s : RS} {p : Rd α} {enc : α → AV} {K : AV → H → Prop} (hc : RdQ f as' h b s p enc) (ha : (first ++ args ++ caps).map wk = as')
    (hk : ∀ a s', RTo h b (h.set b (encRS s')) s' → Got p s a s' → K (enc a) (h.set b (encRS s'))) : callQ Try.prog (.fn f first caps) args h K :=
  callQ_c hc ha fun r h1 ⟨a, s', e1, e2, q1, q2⟩ => by subst e1; subst e2; exact hk a s' q1 q2
/-- What is read whole, or nothing. -/
theorem RdS.of {α : Type} {f : FuncId} {args : List AV} {h : H} {b : Nat} {s : RS} {p : Rd α} {d : α} {enc : α → AV} (hr : RIs h b s) (hp : RdOK p) (hv : ∀ a, PureV (enc a))
    (hc : CallP Try.prog f args h fun r h1 => ∃ a s', wk r = enc a ∧ RFin h b h1 s' ∧ Got p s a s' ∧ (s' = none → a = d)) : RdS f args h b s p d enc :=
  RdS.mk' hr hp hv (hc.mono fun r h1 ⟨a, s', q1, q2, q3, q4⟩ => by
    cases s' with
    | none =>
      rw [Got.none_eq q3 d, ← q4 rfl]
      exact ⟨q1, q2⟩
    | some l =>
      rw [Got.eq q3 d]
      exact ⟨q1, q2⟩)

/-- A slice that was made since. -/
def TNew (h : H) (t : Tok) : Prop := ∀ i, i < h.tn → ¬ TOwn t i
theorem TNew.full (h : H) : TNew h .full := fun i _ h => by cases h
theorem TNew.next {h h1 : H} {t t' : Tok} {B T : Nat → Prop} (a : TNew h t) (e : HF h h1 B T) (n : TNext h1 t t') : TNew h t' := fun i hi ho => by
  rcases n with rfl | ⟨j, rfl, hj⟩
  · exact a i hi ho
  · cases ho
    have := e.tn
    omega
theorem RTo.app {h h1 h2 : H} {b : Nat} {s : RS} {t : Tok} (a : RTo h b h1 s) (ht : TNew h t) (e : HF h1 h2 (fun _ => False) (TOwn t)) : RTo h b h2 s :=
  ⟨a.keep.trans' e (fun _ _ h => h.elim) (fun i hi h => ht i hi h), a.is.keep e fun h => h⟩
theorem RTo.al {h h1 : H} {b : Nat} {s : RS} (a : RTo h b h1 s) (cs : List AV) : RTo h b (h1.alloc cs) s := ⟨a.keep.trans (HF.alloc _ _ _ _), a.is.alloc _⟩
theorem RTo.so {h h1 : H} {b b' : Nat} {s : RS} (a : RTo h b h1 s) (hn : h.bn ≤ b') (hb : b < h.bn) (cs : List AV) : RTo h b (h1.set b' cs) s :=
  ⟨a.keep.trans' (HF.set (B := (· = b')) _ rfl) (fun x hx e => by have e : x = b' := e; omega) (fun _ _ h => h), a.is.setO (by omega)⟩
theorem RFin.so {h h1 : H} {b b' : Nat} {s : RS} (a : RFin h b h1 s) (hn : h.bn ≤ b') (hb : b < h.bn) (cs : List AV) : RFin h b (h1.set b' cs) s := by
  obtain ⟨q1, cs1, q2, q3⟩ := a
  exact ⟨q1.trans' (HF.set (B := (· = b')) _ rfl) (fun x hx e => by have e : x = b' := e; omega) (fun _ _ h => h), cs1, by simp [show ¬ b = b' by omega, q2], q3⟩
end Go.Proofs

/- The program's readers of programs and footprints. -/
namespace Go.Proofs
open Go Go.RowKit Go.Am

theorem pure_encKeyT' (k : KeyT) : PureV (.agg (encKeyT k)) := .agg (pures_cons (.int _ _) (pures1 (.int _ _)))

theorem getKey_rd {h : H} {b : Nat} {s : RS} (hr : RIs h b s) : RdQ 149 [.ptr b 0] h b s rdKey (fun k => .agg (encKeyT k)) := by
  refine RdQ.mk' hr pure_encKeyT' (CallP.run hb149 ok149 (by simp) ?_)
  have hb := hr.blt
  have z : ¬ b = h.bn := by omega
  have z' : ¬ h.bn = b := by omega
  simp -implicitDefEqProofs []
  refine callQ_r (signed_rd (hr.alloc _)).q (by simp) fun a s1 q1 g1 => ?_
  by_cases h1 : a < -1
  · simp -implicitDefEqProofs [h1]
    refine callQ_r (count_rd (most := -1) q1.is (by simp [inI])).q (by simp) fun n s2 q2 g2 => ?_
    have hs2 : s2 = none := by
      have := g2
      unfold Got at this
      cases s1 with
      | none => exact this
      | some l => cases l <;> simpa [rdCount] using this
    subst hs2
    simp -implicitDefEqProofs [z']
    refine ⟨⟨0, 0⟩, rfl, none, ((((RTo.refl hr).al _).trans (q1.trans q2)).so (Nat.le_refl _) hb _).fin, (fun l h => by cases h), ?_⟩
    exact g1.bind (by rw [if_pos (.inl h1)]; exact Got.fail _ _)
  by_cases h2 : 255 < a
  · simp -implicitDefEqProofs [h1, h2]
    refine callQ_r (count_rd (most := -1) q1.is (by simp [inI])).q (by simp) fun n s2 q2 g2 => ?_
    have hs2 : s2 = none := by
      have := g2
      unfold Got at this
      cases s1 with
      | none => exact this
      | some l => cases l <;> simpa [rdCount] using this
    subst hs2
    simp -implicitDefEqProofs [z']
    refine ⟨⟨0, 0⟩, rfl, none, ((((RTo.refl hr).al _).trans (q1.trans q2)).so (Nat.le_refl _) hb _).fin, (fun l h => by cases h), ?_⟩
    exact g1.bind (by rw [if_pos (.inr h2)]; exact Got.fail _ _)
  simp -implicitDefEqProofs [h1, h2]
  refine callQ_r (count_rd (most := 999) q1.is (by simp [inI])).q (by simp) fun n s2 q2 g2 => ?_
  simp -implicitDefEqProofs [z']
  refine ⟨⟨a, n⟩, rfl, s2, ((((RTo.refl hr).al _).trans (q1.trans q2)).so (Nat.le_refl _) hb _).fin, q2.is.bd, ?_⟩
  exact g1.bind (by rw [if_neg (by omega)]; exact g2.bind (Got.pure _ _))

theorem template_rd {h : H} {b : Nat} {s : RS} (hr : RIs h b s) : RdQ 150 [.ptr b 0] h b s rdKey (fun k => .agg (encKeyT k)) := by
  refine RdQ.mk' hr pure_encKeyT' (CallP.run hb150 ok150 (by simp) ?_)
  have hb := hr.blt
  have z : ¬ b = h.bn := by omega
  have z' : ¬ h.bn = b := by omega
  simp -implicitDefEqProofs []
  refine callQ_r (signed_rd (hr.alloc _)).q (by simp) fun a s1 q1 g1 => ?_
  by_cases h1 : a < -1 ∨ 255 < a
  · have hgo : ∀ {K : AV → H → Prop}, (∀ n, K (.int .i64 n) (((h.alloc [.int .i64 0, .int .i64 0]).set b (encRS s1)).set b (encRS none))) → callQ Try.prog (.fn 68 [] []) [.ptr b 0, .int .i64 (-1)] ((h.alloc [.int .i64 0, .int .i64 0]).set b (encRS s1)) K := fun {K} hk => by
      refine callQ_r (count_rd (most := -1) q1.is (by simp [inI])).q (by simp) fun n s2 q2 g2 => ?_
      have hs2 : s2 = none := by
        have := g2
        unfold Got at this
        cases s1 with
        | none => exact this
        | some l => cases l <;> simpa [rdCount] using this
      subst hs2
      exact hk n
    have q2 : RTo (h.alloc [.int .i64 0, .int .i64 0]) b (((h.alloc [.int .i64 0, .int .i64 0]).set b (encRS s1)).set b (encRS none)) none := q1.trans (RTo.set q1.is (fun l h => by cases h))
    by_cases h2 : a < -1
    focus
      simp -implicitDefEqProofs [h2]
    rotate_left
    focus
      have h3 : 255 < a := h1.resolve_left h2
      simp -implicitDefEqProofs [h2, h3]
    all_goals
      refine hgo fun n => ?_
      simp -implicitDefEqProofs []
      refine callQ_r (count_rd (most := 999) q2.is (by simp [inI])).q (by simp) fun n s3 q3 g3 => ?_
      have hs3 : s3 = none := g3
      subst hs3
      simp -implicitDefEqProofs [z']
      refine ⟨⟨a, n⟩, rfl, none, ((((RTo.refl hr).al _).trans (q2.trans q3)).so (Nat.le_refl _) hb _).fin, (fun l h => by cases h), ?_⟩
      exact g1.bind (by rw [if_pos h1]; exact Got.fail _ _)
  have h2 : ¬ a < -1 := fun h => h1 (.inl h)
  have h3 : ¬ 255 < a := fun h => h1 (.inr h)
  simp -implicitDefEqProofs [h2, h3]
  refine callQ_r (count_rd (most := 999) q1.is (by simp [inI])).q (by simp) fun n s2 q2 g2 => ?_
  simp -implicitDefEqProofs [z']
  refine ⟨⟨a, n⟩, rfl, s2, ((((RTo.refl hr).al _).trans (q1.trans q2)).so (Nat.le_refl _) hb _).fin, q2.is.bd, ?_⟩
  exact g1.bind (by rw [if_neg h1]; exact g2.bind (Got.pure _ _))
end Go.Proofs

/- The program's readers of programs and footprints, whole. -/
namespace Go.Proofs
open Go Go.RowKit Go.Am

/-- What a loop of reading has done. -/
structure RLoop {α : Type} (h : H) (b : Nat) (s1 : RS) (p : Rd α) (j : Nat) (h1 : H) (sj : RS) (L : List α) (t : Tok) : Prop where
  to : RTo h b h1 sj
  got : Got (Rd.rep p j) s1 L sj
  len : L.length = j
  live : TLive h1 t j
  new : TNew h t
theorem RLoop.start {α : Type} {h h1 : H} {b : Nat} {s1 : RS} {p : Rd α} (a : RTo h b h1 s1) : RLoop h b s1 p 0 h1 s1 [] .full := ⟨a, Got.pure _ _, rfl, trivial, TNew.full _⟩
theorem RLoop.next {α : Type} {h h1 h2 h3 : H} {b : Nat} {s1 sj s' : RS} {p : Rd α} {j : Nat} {L : List α} {t t' : Tok} {a : α} (r : RLoop h b s1 p j h1 sj L t) (g : Got p sj a s') (to : RTo h b h2 s')
    (hl : TLive h3 t' (j + 1)) (hn : TNext h2 t t') (hf : HF h2 h3 (fun _ => False) (TOwn t)) : RLoop h b s1 p (j + 1) h3 s' (L ++ [a]) t' :=
  ⟨to.app r.new hf, r.got.bind (g.bind (Got.pure _ _)), by rw [List.length_append, r.len]; rfl, hl, r.new.next to.keep hn⟩

set_option maxHeartbeats 1000000 in
theorem progGet_rd {h : H} {b : Nat} {s : RS} (hr : RIs h b s) : RdS 122 [.ptr b 0] h b s rdProg [] (fun l => .sl .no (l.map encInst)) := by
  refine RdS.of hr rdProg_ok (fun l => elOK_Inst.pureL l) (CallP.run hb122 ok122 (by simp) ?_)
  have hb := hr.blt
  simp -implicitDefEqProofs []
  have hn := count_rd hr (most := 8) (by simp [inI])
  refine callQ_s hn.call (by simp) ?_
  have q := hn.to
  have g := Got.runS (rdCount 8) 0 s
  have hin := rdCount_in (most := 8) (by simp [inI]) s
  clear hn
  generalize runS (rdCount 8) 0 s = x at q g hin ⊢
  obtain ⟨n, s1⟩ := x
  simp only at q g hin
  obtain ⟨N, rfl⟩ := Int.eq_ofNat_of_zero_le hin.1
  have hN : N ≤ 8 := by omega
  simp -implicitDefEqProofs []
  refine run_loop (fun m S h1 => ∃ (j : Nat) (sj : RS) (L : List Inst) (t : Tok), m = N - j ∧ j ≤ N ∧ S 0 = .ptr b 0 ∧ S 3 = .sl t (L.map encInst) ∧ S 7 = .int .i64 N ∧ S 8 = .int .i64 j ∧ RLoop h b s1 rdInst j h1 sj L t) ?_ N ?_
  rotate_left
  · exact ⟨0, s1, [], .full, rfl, Nat.zero_le _, by simp, by simp, by simp, by simp, RLoop.start q⟩
  rintro m S h1 ⟨j, sj, L, t, hm, hj, t0, t3, t7, t8, hL⟩ ih
  have hbn : h.bn ≤ h1.bn := hL.to.keep.bn
  have z0 : ¬ b = h1.bn := by omega
  have z1 : ¬ h1.bn = b := by omega
  by_cases hlt : j < N
  · simp -implicitDefEqProofs [t0, t7, t8, hlt]
    refine callQ_r (count_rd (most := 255) hL.to.is (by simp [inI])).q (by simp) fun v1 u1 q1 g1 => ?_
    simp -implicitDefEqProofs []
    refine callQ_r (count_rd (most := 255) q1.is (by simp [inI])).q (by simp) fun v2 u2 q2 g2 => ?_
    simp -implicitDefEqProofs []
    refine callQ_r (count_rd (most := 255) q2.is (by simp [inI])).q (by simp) fun v3 u3 q3 g3 => ?_
    simp -implicitDefEqProofs []
    refine callQ_r (count_rd (most := 255) q3.is (by simp [inI])).q (by simp) fun v4 u4 q4 g4 => ?_
    simp -implicitDefEqProofs [t0]
    have hb1 : b < h1.bn := by omega
    have k4 := q1.trans (q2.trans (q3.trans q4))
    refine callQ_r (getKey_rd (RTo.is (RTo.so (RTo.al k4 _) (b' := h1.bn) (Nat.le_refl _) hb1 _))) (by simp) fun v5 u5 q5 g5 => ?_
    have k5 := (RTo.so (RTo.al k4 _) (b' := h1.bn) (Nat.le_refl _) hb1 _).trans q5
    simp -implicitDefEqProofs [t0]
    refine callQ_r (getKey_rd k5.is) (by simp) fun v6 u6 q6 g6 => ?_
    have k6 := k5.trans q6
    simp -implicitDefEqProofs [t0, z1, encKeyT]
    refine callQ_r (signed_rd (RTo.is (RTo.so (RTo.so k6 (b' := h1.bn) (Nat.le_refl _) hb1 _) (b' := h1.bn) (Nat.le_refl _) hb1 _))).q (by simp) fun v7 u7 q7 g7 => ?_
    have k7 := (RTo.so (RTo.so k6 (b' := h1.bn) (Nat.le_refl _) hb1 _) (b' := h1.bn) (Nat.le_refl _) hb1 _).trans q7
    simp -implicitDefEqProofs [t3, z1]
    have k8 := RTo.so k7 (b' := h1.bn) (Nat.le_refl _) hb1 [.int .i64 v1, .int .i64 v2, .int .i64 v3, .int .i64 v4, .int .i64 v5.arg, .int .i64 v5.base, .int .i64 v6.arg, .int .i64 v6.base, .int .i64 v7]
    refine appQ_tok (t := t) (es := L.map encInst) (es2 := [encInst ⟨v1, v2, v3, v4, v5, v6, v7⟩]) (by simpa [hL.len] using hL.live) (by simp [encInst]) (by simp [srcA, encInst]) (by simp [hL.len]; omega) fun t' h3 p1 p2 p3 p4 => ?_
    have hg : Got rdInst sj ⟨v1, v2, v3, v4, v5, v6, v7⟩ u7 := g1.bind (g2.bind (g3.bind (g4.bind (g5.bind (g6.bind (g7.bind (Got.pure _ _)))))))
    have hl2 := hL.next hg (h2 := _) (h3 := h3) (t' := t') (hL.to.trans k8) (by simpa [hL.len] using p1) p2 p3
    simp -implicitDefEqProofs [t8, inc_i64 hlt (show N ≤ _ by omega), -Int.natCast_add]
    exact ih (N - (j + 1)) _ _ (by omega) ⟨j + 1, u7, _, t', rfl, by omega, by simp [t0], by simp, by simp [t7], by simp, hl2⟩
  · obtain rfl : j = N := by omega
    simp -implicitDefEqProofs [t0, t7, t8]
    refine callQ_s (rOk_ok hL.to.is) (by simp) ?_
    have hgp : Got rdProg s L sj := g.bind (by rw [Int.toNat_natCast]; exact hL.got)
    cases sj with
    | none =>
      simp -implicitDefEqProofs []
      exact ⟨none, hL.to.fin, Got.any hgp _⟩
    | some l =>
      simp -implicitDefEqProofs [t3]
      exact ⟨L, rfl, some l, hL.to.fin, hgp, (fun h => by cases h)⟩
end Go.Proofs

/- The program's reader of footprints and steps. -/
namespace Go.Proofs
open Go Go.RowKit Go.Am

set_option maxHeartbeats 1000000 in
theorem footGet_rd {h : H} {b : Nat} {s : RS} (hr : RIs h b s) : RdS 123 [.ptr b 0] h b s rdFoot [] (fun l => .sl .no (l.map encSpanT)) := by
  refine RdS.of hr rdFoot_ok (fun l => elOK_SpanT.pureL l) (CallP.run hb123 ok123 (by simp) ?_)
  have hb := hr.blt
  simp -implicitDefEqProofs []
  have hn := count_rd hr (most := 4) (by simp [inI])
  refine callQ_s hn.call (by simp) ?_
  have q := hn.to
  have g := Got.runS (rdCount 4) 0 s
  have hin := rdCount_in (most := 4) (by simp [inI]) s
  clear hn
  generalize runS (rdCount 4) 0 s = x at q g hin ⊢
  obtain ⟨n, s1⟩ := x
  simp only at q g hin
  obtain ⟨N, rfl⟩ := Int.eq_ofNat_of_zero_le hin.1
  have hN : N ≤ 4 := by omega
  simp -implicitDefEqProofs []
  refine run_loop (fun m S h1 => ∃ (j : Nat) (sj : RS) (L : List SpanT) (t : Tok), m = N - j ∧ j ≤ N ∧ S 0 = .ptr b 0 ∧ S 3 = .sl t (L.map encSpanT) ∧ S 7 = .int .i64 N ∧ S 8 = .int .i64 j ∧ RLoop h b s1 rdSpanT j h1 sj L t) ?_ N ?_
  rotate_left
  · exact ⟨0, s1, [], .full, rfl, Nat.zero_le _, by simp, by simp, by simp, by simp, RLoop.start q⟩
  rintro m S h1 ⟨j, sj, L, t, hm, hj, t0, t3, t7, t8, hL⟩ ih
  have hbn : h.bn ≤ h1.bn := hL.to.keep.bn
  have hb1 : b < h1.bn := by omega
  have z0 : ¬ b = h1.bn := by omega
  have z1 : ¬ h1.bn = b := by omega
  have z2 : ¬ h1.bn + 1 = b := by omega
  have z3 : ¬ b = h1.bn + 1 := by omega
  by_cases hlt : j < N
  · simp -implicitDefEqProofs [t0, t7, t8, hlt]
    refine callQ_r (template_rd hL.to.is) (by simp) fun v1 u1 q1 g1 => ?_
    simp -implicitDefEqProofs [t0]
    refine callQ_r (template_rd q1.is) (by simp) fun v2 u2 q2 g2 => ?_
    have k2 := q1.trans q2
    simp -implicitDefEqProofs [encKeyT]
    have k3 := RTo.so (RTo.so (RTo.al (RTo.al k2 [.int .i64 0, .int .i64 0]) [.int .i64 0, .int .i64 0]) (b' := h1.bn) (Nat.le_refl _) hb1 [.int .i64 v1.arg, .int .i64 v1.base]) (b' := h1.bn + 1) (Nat.le_succ _) hb1 [.int .i64 v2.arg, .int .i64 v2.base]
    have hf := flag_rd k3.is
    have g3 := Got.runS rdFlag false u2
    have q3 := hf.to
    generalize hx : runS rdFlag false u2 = x at g3 q3
    obtain ⟨v3, u3⟩ := x
    simp only at q3 g3
    have k4 := k3.trans q3
    refine run_dreg c123_d6 ?_
    simp -implicitDefEqProofs [t0, t3]
    refine callD_s hf.call (by simp) ?_
    rw [hx]
    simp -implicitDefEqProofs []
    refine appQ_tok (t := t) (es := L.map encSpanT) (es2 := [encSpanT ⟨v1, v2, v3⟩]) (by simpa [hL.len] using hL.live) (by simp [encSpanT]) (by simp [srcA, encSpanT]) (by simp [hL.len]; omega) fun t' h3 p1 p2 p3 p4 => ?_
    have hg : Got rdSpanT sj ⟨v1, v2, v3⟩ u3 := g1.bind (g2.bind (g3.bind (Got.pure _ _)))
    have hl2 := hL.next hg (h2 := _) (h3 := h3) (t' := t') (hL.to.trans k4) (by simpa [hL.len] using p1) p2 p3
    have f1 : h3.bx h1.bn = some [.int .i64 v1.arg, .int .i64 v1.base] := by rw [p3.bx _ (by simp) (fun h => h)]; simp [z1]
    have f2 : h3.bx (h1.bn + 1) = some [.int .i64 v2.arg, .int .i64 v2.base] := by rw [p3.bx _ (by simp) (fun h => h)]; simp [z2]
    have f3 : h1.bn + 1 < h3.bn := by rw [p4]; simp
    have f4 : h1.bn < h3.bn := by omega
    simp -implicitDefEqProofs [t8, z1, z2, f1, f2, f3, f4, inc_i64 hlt (show N ≤ _ by omega), -Int.natCast_add]
    exact ih (N - (j + 1)) _ _ (by omega) ⟨j + 1, u3, _, t', rfl, by omega, by simp [t0], by simp, by simp [t7], by simp, hl2⟩
  · obtain rfl : j = N := by omega
    simp -implicitDefEqProofs [t0, t7, t8]
    refine callQ_s (rOk_ok hL.to.is) (by simp) ?_
    have hgp : Got rdFoot s L sj := g.bind (by rw [Int.toNat_natCast]; exact hL.got)
    cases sj with
    | none =>
      simp -implicitDefEqProofs []
      exact ⟨none, hL.to.fin, Got.any hgp _⟩
    | some l =>
      simp -implicitDefEqProofs [t3]
      exact ⟨L, rfl, some l, hL.to.fin, hgp, (fun h => by cases h)⟩

/-- A step that is read: definite, also where it isn't right. -/
def stpV (s : RS) : Stp := ⟨(runS rdProg [] s).1, (runS rdFoot [] (runS rdProg [] s).2).1⟩
def stpS (s : RS) : RS := (runS rdFoot [] (runS rdProg [] s).2).2
theorem stp_got (s : RS) : Got rdStp s (stpV s) (stpS s) := (Got.runS rdProg [] s).bind ((Got.runS rdFoot [] _).bind (Got.pure _ _))
theorem step_rd {h : H} {b : Nat} {s : RS} (hr : RIs h b s) : RdX 85 [.ptr b 0] h b (.agg (encStp (stpV s))) (stpS s) := by
  refine RdX.mk' hr (rdFoot_ok.bd _ (rdProg_ok.bd _ hr.bd)) (.agg (pure_encStp _)) (CallP.run hb85 ok85 (by simp) ?_)
  have hb := hr.blt
  have z1 : ¬ h.bn = b := by omega
  simp -implicitDefEqProofs []
  have h1 := progGet_rd (hr.alloc [.sl .full [], .sl .full []])
  refine callQ_s h1.call (by simp) ?_
  have q1 := h1.to
  simp -implicitDefEqProofs []
  have h2 := footGet_rd q1.is
  refine callQ_s h2.call (by simp) ?_
  have q2 := h2.to
  simp -implicitDefEqProofs [z1, encStp, stpV, stpS]
  exact ((((RTo.refl hr).al _).trans (q1.trans q2)).so (Nat.le_refl _) hb _).fin
end Go.Proofs

/- Which classes there may be: the program's answer. -/
namespace Go.Proofs
open Go Go.RowKit Go.Am

theorem stepMay_parts (a : Int) (s u : Stp) : stepMay a (s, u) = (progMay s.code a && footMay s.foot a && compMay u a) := by
  rw [comp_back, stepMay]
  cases progMay s.code a <;> cases footMay s.foot a <;> cases footMay u.foot a <;> cases backMay u a <;> rfl

set_option maxHeartbeats 1000000 in
theorem classMay_ok (c : Cls) (hc : c.wf) : PCall Try.prog 84 [.agg (encCls c)] (.bool (clsMay c)) := by
  refine PCall.run hb84 ok84 (by simp) (pures1 (.agg (pure_encCls c))) (.bool _) ?_
  obtain ⟨hwn, hwa, ⟨hsl, hsw⟩, hcl, hcw⟩ := hc
  by_cases bad : (((((((c.name.size : Int) < 1 ∨ (16 : Int) < (c.name.size : Int)) ∨ c.args < 0) ∨ 3 < c.args) ∨ (c.steps.length : Int) < 1) ∨ (4 : Int) < (c.steps.length : Int)) ∨ ¬ c.comps.length = c.steps.length)
  · have hf : clsMay c = false := by
      simp only [clsMay, Bool.and_eq_false_iff, Bool.not_eq_false', decide_eq_true_eq, decide_eq_false_iff_not]
      omega
    simp (maxSteps := 2000000) +contextual -implicitDefEqProofs [↓gdL_T, ↓gdL_F, ↓condQ_b, -Int.not_lt, -Int.not_le, -Nat.not_lt, -Nat.not_le, hf, encCls, H.nil]
    all_goals (intros; omega)
  have hm : clsMay c = (c.steps.zip c.comps).all (stepMay c.args) := by
    simp only [clsMay, show ¬ c.name.size < 1 by omega, show ¬ 16 < c.name.size by omega, show ¬ c.args < 0 by omega, show ¬ 3 < c.args by omega, show ¬ c.steps.length < 1 by omega, show ¬ 4 < c.steps.length by omega, show c.comps.length = c.steps.length by omega]
    simp
  have hcs : c.comps.length = c.steps.length := by omega
  have e1 : ¬ (c.name.size : Int) < 1 := by omega
  have e2 : ¬ (16 : Int) < (c.name.size : Int) := by omega
  have e3 : ¬ c.args < 0 := by omega
  have e4 : ¬ 3 < c.args := by omega
  have e5 : ¬ (c.steps.length : Int) < 1 := by omega
  have e6 : ¬ (4 : Int) < (c.steps.length : Int) := by omega
  simp -implicitDefEqProofs [encCls, H.nil, e1, e2, e3, e4, e5, e6, hcs]
  refine callQ_s (each_ok c _) (by simp [encCls]) ?_
  simp -implicitDefEqProofs []
  generalize hS : (su _ 45 _ : Slots) = S
  have s1 : S 1 = .ptr 0 0 := by rw [← hS]; simp
  have s2 : S 2 = .ptr 1 0 := by rw [← hS]; simp
  have s45 : S 45 = .fn 131 [] [.ptr 2 0] := by rw [← hS]; simp
  clear hS
  have hzl : (c.steps.zip c.comps).length = c.steps.length := by simp [hcs]
  let q0 : LoopA := ⟨S, [46, 47], c84_x10, c84_y11, .ready, none⟩
  let qE : LoopA := ⟨S, [46, 47], c84_x10, c84_y11, .done, some .ret⟩
  let I : Nat → H → Prop := fun k h1 => 0 < h1.ln ∧ h1.lp 0 = some q0 ∧ 3 ≤ h1.bn ∧ h1.bx 0 = some (encCls c) ∧ h1.bx 1 = some [.bool false] ∧ h1.bx 2 = some (encCls c) ∧ ∀ i (hi : i < (c.steps.zip c.comps).length), i < k → stepMay c.args (c.steps.zip c.comps)[i] = true
  let J : H → Prop := fun h1 => 0 < h1.ln ∧ h1.lp 0 = some qE ∧ 3 ≤ h1.bn ∧ h1.bx 1 = some [.bool false] ∧ h1.bx 2 = some (encCls c) ∧ (c.steps.zip c.comps).all (stepMay c.args) = false
  refine .rngf (Z := fun _ h1 => I c.steps.length h1 ∨ J h1) (F := 131) (first := []) (caps := [.ptr 2 0]) rfl (by simpa using s45) (each1_ok c hcs hsl I J (fun k h' ⟨_, _, q1, _, _, q2, _⟩ => ⟨by omega, q2⟩) (fun h' ⟨_, _, q1, _, q2, _⟩ => ⟨by omega, q2⟩) ?_ ?_) ?_ ?_
  · rintro k h' k1 k2 ⟨j1, j2, j3, j4, j5, j6, j7⟩
    have hws := hsw _ (List.getElem_mem k1)
    have hwc := hcw _ (List.getElem_mem k2)
    have hp1 := hws.1.1
    have hp2 := hws.2.1
    have hlz : k < (c.steps.zip c.comps).length := by omega
    have j4' := j4
    rw [encCls] at j4
    have b1 : 0 < h'.bn := by omega
    have hbad : stepMay c.args (c.steps[k], c.comps[k]) = false → Run Try.prog true [.c c84_x10, .beg 0, .c c84_y11] (roundQ 0 fun r1 h1 => r1 = .bool false ∧ h1.lp 0 = some qE ∧ HF h' (h1.setLoop 0 (some q0)) (fun _ => False) (fun _ => False)) (slotsP S [46, 47] [.agg (encStp c.steps[k]), .agg (encStp c.comps[k])]) h' → ∃ r h'', SYld Try.prog 0 [.agg (encStp c.steps[k]), .agg (encStp c.comps[k])] h' (.bool r) h'' ∧ (r = true → I (k + 1) h'') ∧ (r = false → J h'') := fun hn hrun => by
      refine ⟨false, _, SYld.ro (q := q0) (q' := qE) j1 j2 rfl rfl (.bool _) hrun, (fun h => by cases h), fun _ => ⟨by simpa using j1, by simp, by simpa using j3, by simpa using j5, by simpa using j6, ?_⟩⟩
      exact all_take_false hlz (by rw [List.getElem_zip]; exact hn)
    have hgood : stepMay c.args (c.steps[k], c.comps[k]) = true → Run Try.prog true [.c c84_x10, .beg 0, .c c84_y11] (roundQ 0 fun r1 h1 => r1 = .bool true ∧ h1.lp 0 = some q0 ∧ HF h' (h1.setLoop 0 (some q0)) (fun _ => False) (fun _ => False)) (slotsP S [46, 47] [.agg (encStp c.steps[k]), .agg (encStp c.comps[k])]) h' → ∃ r h'', SYld Try.prog 0 [.agg (encStp c.steps[k]), .agg (encStp c.comps[k])] h' (.bool r) h'' ∧ (r = true → I (k + 1) h'') ∧ (r = false → J h'') := fun hn hrun => by
      refine ⟨true, _, SYld.ro (q := q0) (q' := q0) j1 j2 rfl rfl (.bool _) hrun, fun _ => ⟨by simpa using j1, by simp, by simpa using j3, by simpa using j4', by simpa using j5, by simpa using j6, fun i hi hij => ?_⟩, fun h => by cases h⟩
      by_cases h : i = k
      · subst h; rw [List.getElem_zip]; exact hn
      · exact j7 i hi (by omega)
    rw [stepMay_parts] at hbad hgood
    have z0 : ¬ 0 = h'.bn := by omega
    have z1 : ¬ 0 = h'.bn + 1 := by omega
    have z2 : ¬ 1 = h'.bn := by omega
    have z3 : ¬ 1 = h'.bn + 1 := by omega
    have z4 : ¬ h'.bn = 0 := by omega
    have b2 : 1 < h'.bn := by omega
    have c0 : 0 < h'.bn + 1 + 1 := by omega
    have c1 : 1 < h'.bn + 1 + 1 := by omega
    cases hp : progMay c.steps[k].code c.args
    · refine hbad (by simp [hp]) ?_
      simp -implicitDefEqProofs [slotsP, s1, j1, j2, j4, z0, z4, c0, q0, encStp]
      refine callQ_p (progMay_ok c.steps[k].code c.args hp1) (by simp) ?_
      simp -implicitDefEqProofs [slotsP, s2, j1, j5, z2, z4, c1, q0, roundQ, encStp, hp]
      refine ⟨rfl, by simp; omega, fun b hb hn => ?_, by simp, by simp, by simp, fun l hl => ?_, by simp, by simp⟩
      · by_cases h1 : b = 1
        · subst h1; simp [j5]
        · simp [show ¬ b = h'.bn by omega, show ¬ b = h'.bn + 1 by omega, h1]
      · by_cases h0 : l = 0
        · subst h0; simp [j2, q0]
        · simp [h0]
    cases hq : footMay c.steps[k].foot c.args
    · refine hbad (by simp [hp, hq]) ?_
      simp -implicitDefEqProofs [slotsP, s1, j1, j2, j4, z0, z4, c0, q0, encStp]
      refine callQ_p (progMay_ok c.steps[k].code c.args hp1) (by simp) ?_
      simp -implicitDefEqProofs [slotsP, s1, j4, z0, z4, c0, encStp, hp]
      refine callQ_p (footMay_ok c.steps[k].foot c.args hp2) (by simp) ?_
      simp -implicitDefEqProofs [slotsP, s2, j1, j5, z2, z4, c1, q0, roundQ, encStp, hq]
      refine ⟨rfl, by simp; omega, fun b hb hn => ?_, by simp, by simp, by simp, fun l hl => ?_, by simp, by simp⟩
      · by_cases h1 : b = 1
        · subst h1; simp [j5]
        · simp [show ¬ b = h'.bn by omega, show ¬ b = h'.bn + 1 by omega, h1]
      · by_cases h0 : l = 0
        · subst h0; simp [j2, q0]
        · simp [h0]
    cases hr : compMay c.comps[k] c.args
    · refine hbad (by simp [hp, hq, hr]) ?_
      simp -implicitDefEqProofs [slotsP, s1, j1, j2, j4, z0, z4, c0, q0, encStp]
      refine callQ_p (progMay_ok c.steps[k].code c.args hp1) (by simp) ?_
      simp -implicitDefEqProofs [slotsP, s1, j4, z0, z4, c0, encStp, hp]
      refine callQ_p (footMay_ok c.steps[k].foot c.args hp2) (by simp) ?_
      simp -implicitDefEqProofs [slotsP, s1, j4, z0, z4, c0, encStp, hq]
      refine callQ_p (mayComp_ok c.comps[k] c.args hwc) (by simp [encStp]) ?_
      simp -implicitDefEqProofs [slotsP, s2, j1, j5, z2, z4, c1, q0, roundQ, encStp, hr]
      refine ⟨rfl, by simp; omega, fun b hb hn => ?_, by simp, by simp, by simp, fun l hl => ?_, by simp, by simp⟩
      · by_cases h1 : b = 1
        · subst h1; simp [j5]
        · simp [show ¬ b = h'.bn by omega, show ¬ b = h'.bn + 1 by omega, h1]
      · by_cases h0 : l = 0
        · subst h0; simp [j2, q0]
        · simp [h0]
    · refine hgood (by simp [hp, hq, hr]) ?_
      simp -implicitDefEqProofs [slotsP, s1, j1, j2, j4, z0, z4, c0, q0, encStp]
      refine callQ_p (progMay_ok c.steps[k].code c.args hp1) (by simp) ?_
      simp -implicitDefEqProofs [slotsP, s1, j4, z0, z4, c0, encStp, hp]
      refine callQ_p (footMay_ok c.steps[k].foot c.args hp2) (by simp) ?_
      simp -implicitDefEqProofs [slotsP, s1, j4, z0, z4, c0, encStp, hq]
      refine callQ_p (mayComp_ok c.comps[k] c.args hwc) (by simp [encStp]) ?_
      simp -implicitDefEqProofs [slotsP, j1, q0, roundQ, encStp, hr]
      refine ⟨by simp; omega, fun b hb hn => ?_, by simp, by simp, by simp, fun l hl => ?_, by simp, by simp⟩
      · by_cases h1 : b = 1
        · subst h1; simp [j5, z2, z4]
        · simp [show ¬ b = h'.bn by omega, show ¬ b = h'.bn + 1 by omega]
      · by_cases h0 : l = 0
        · subst h0; simp [j2, q0]
        · simp [h0]
  · exact ⟨by simp, by simp [q0], by simp, by simp [encCls], by simp, by simp [encCls], fun i hi hij => absurd hij (by omega)⟩
  · rintro v h2 (⟨j1, j2, _⟩ | ⟨j1, j2, _⟩)
    · exact ⟨j1, _, j2, by simp [q0]⟩
    · exact ⟨j1, _, j2, by simp [qE]⟩
  · rintro v h2 q (⟨j1, j2, j3, j4, j5, j6, j7⟩ | ⟨j1, j2, j3, j5, j6, j7⟩) hq
    · have hw := all_whole (p := stepMay c.args) (l := c.steps.zip c.comps) (j := c.steps.length) (by omega) j7
      replace hq : h2.lp 0 = some q := hq
      rw [j2] at hq
      cases hq
      simp -implicitDefEqProofs [pendK, q0, s2, j5, show 1 < h2.bn by omega, hm, hw]
    · replace hq : h2.lp 0 = some q := hq
      rw [j2] at hq
      cases hq
      simp -implicitDefEqProofs [pendK, qE, s2, j5, show 1 < h2.bn by omega, hm, j7]
end Go.Proofs

/- What is read as a class: plain laws. -/
namespace Go.Proofs
open Go Go.RowKit Go.Am

/-- All that is read is such. -/
def RdAll {α : Type} (p : Rd α) (Q : α → Prop) : Prop := ∀ l a l', (∀ w ∈ l, w < 18446744073709551616) → p l = some (a, l') → Q a
theorem RdAll.bind {α β : Type} {p : Rd α} {q : α → Rd β} {R : α → Prop} {Q : β → Prop} (hp : RdAll p R) (ho : RdOK p) (hq : ∀ a, R a → RdAll (q a) Q) : RdAll (p.bind q) Q := fun l b l' hw h => by
  simp only [Rd.bind, Option.bind_eq_some_iff] at h
  obtain ⟨⟨a, l1⟩, h1, h2⟩ := h
  exact hq a (hp l a l1 hw h1) l1 b l' (fun w hm => hw w ((ho l a l1 h1).2 w hm)) h2
theorem RdAll.pure {α : Type} {a : α} {Q : α → Prop} (h : Q a) : RdAll (Rd.pure a) Q := fun l b l' _ e => by
  simp only [Rd.pure, Option.some.injEq, Prod.mk.injEq] at e
  obtain ⟨rfl, _⟩ := e
  exact h
theorem RdAll.none {α : Type} {Q : α → Prop} : RdAll (Rd.none) Q := fun l b l' _ e => by cases e
theorem RdAll.rep {α : Type} {p : Rd α} {Q : α → Prop} (hp : RdAll p Q) (ho : RdOK p) : ∀ k, RdAll (Rd.rep p k) fun L => L.length = k ∧ ∀ a ∈ L, Q a
  | 0 => RdAll.pure ⟨rfl, fun a h => by cases h⟩
  | k + 1 => (RdAll.rep hp ho k).bind (ho.rep k) fun L ⟨h1, h2⟩ => hp.bind ho fun a ha => RdAll.pure ⟨by rw [List.length_append, h1]; rfl, fun x hx => by
    rcases List.mem_append.1 hx with h | h
    · exact h2 x h
    · rw [List.mem_singleton.1 h]; exact ha⟩
theorem rdCount_all (most : Int) : RdAll (rdCount most) fun n => 0 ≤ n ∧ n ≤ most := fun l a l' _ h => by
  cases l with
  | nil => cases h
  | cons w l =>
    simp only [rdCount] at h
    split at h
    · cases h; omega
    · cases h
theorem rdSigned_all : RdAll rdSigned inI := fun l a l' hw h => by
  cases l with
  | nil => cases h
  | cons w l =>
    simp only [rdSigned, Option.some.injEq, Prod.mk.injEq] at h
    obtain ⟨rfl, _⟩ := h
    exact backI_in (hw w (List.mem_cons_self ..))
theorem rdText_all : RdAll rdText fun s => s.size ≤ 64 := fun l a l' hw h => by
  simp only [rdText, Option.bind_eq_some_iff] at h
  obtain ⟨⟨n, l1⟩, h1, ⟨ws, l2⟩, h2, h3⟩ := h
  have := rdCount_all 64 l n l1 hw h1
  simp only at h3
  split at h3
  · simp only [Option.some.injEq, Prod.mk.injEq] at h3
    obtain ⟨rfl, _⟩ := h3
    rw [unpack_size]; omega
  · cases h3
theorem rdFlag_all : RdAll rdFlag fun _ => True := fun _ _ _ _ _ => trivial
theorem rdKey_all : RdAll rdKey KeyT.wf := rdSigned_all.bind rdSigned_ok fun a ha => by
  split
  · exact RdAll.none
  · exact (rdCount_all 999).bind (rdCount_ok _) fun n hn => RdAll.pure ⟨ha, by simp only [inI]; omega⟩
theorem rdInst_all : RdAll rdInst Inst.wf :=
  (rdCount_all 255).bind (rdCount_ok _) fun a1 h1 => (rdCount_all 255).bind (rdCount_ok _) fun a2 h2 => (rdCount_all 255).bind (rdCount_ok _) fun a3 h3 => (rdCount_all 255).bind (rdCount_ok _) fun a4 h4 =>
    rdKey_all.bind rdKey_ok fun k hk => rdKey_all.bind rdKey_ok fun l hl => rdSigned_all.bind rdSigned_ok fun x hx => RdAll.pure ⟨by simp only [inI]; omega, by simp only [inI]; omega, by simp only [inI]; omega, by simp only [inI]; omega, hk, hl, hx⟩
theorem rdSpanT_all : RdAll rdSpanT SpanT.wf := rdKey_all.bind rdKey_ok fun k hk => rdKey_all.bind rdKey_ok fun l hl => rdFlag_all.bind rdFlag_ok fun _ _ => RdAll.pure ⟨hk, hl⟩
theorem rdProg_all : RdAll rdProg fun l => l.length ≤ 8 ∧ ∀ x ∈ l, x.wf := (rdCount_all 8).bind (rdCount_ok _) fun n hn => fun l a l' hw h => by
  obtain ⟨h1, h2⟩ := rdInst_all.rep rdInst_ok n.toNat l a l' hw h
  exact ⟨by omega, h2⟩
theorem rdFoot_all : RdAll rdFoot fun l => l.length ≤ 4 ∧ ∀ x ∈ l, x.wf := (rdCount_all 4).bind (rdCount_ok _) fun n hn => fun l a l' hw h => by
  obtain ⟨h1, h2⟩ := rdSpanT_all.rep rdSpanT_ok n.toNat l a l' hw h
  exact ⟨by omega, h2⟩
theorem rdStp_all : RdAll rdStp Stp.wf := rdProg_all.bind rdProg_ok fun c hc => rdFoot_all.bind rdFoot_ok fun f hf => RdAll.pure ⟨⟨by simp only [maxLen]; omega, hc.2⟩, by simp only [maxLen]; omega, hf.2⟩
theorem rdPair_all : RdAll rdPair fun p => p.1.wf ∧ p.2.wf := rdStp_all.bind rdStp_ok fun s hs => rdStp_all.bind rdStp_ok fun u hu => RdAll.pure ⟨hs, hu⟩
theorem rdCls_all : RdAll rdCls Cls.wf := rdText_all.bind rdText_ok fun name hname => (rdCount_all 3).bind (rdCount_ok _) fun args hargs => (rdCount_all 4).bind (rdCount_ok _) fun n hn =>
  (rdPair_all.rep rdPair_ok n.toNat).bind (rdPair_ok.rep _) fun L hL => rdFlag_all.bind rdFlag_ok fun r _ => RdAll.pure ⟨by simp only [maxLen]; omega, by simp only [inI]; omega,
    ⟨by simp only [maxLen, List.length_map]; omega, fun y hy => by obtain ⟨p, hp, rfl⟩ := List.mem_map.1 hy; exact (hL.2 p hp).1⟩,
    by simp only [maxLen, List.length_map]; omega, fun y hy => by obtain ⟨p, hp, rfl⟩ := List.mem_map.1 hy; exact (hL.2 p hp).2⟩

theorem Got.all {α : Type} {p : Rd α} {Q : α → Prop} (hp : RdAll p Q) {s : RS} (hs : Bd s) {a : α} {l : List Nat} (h : Got p s a (some l)) : Q a := by
  unfold Got at h
  cases s with
  | none => simp at h
  | some l0 =>
    simp only [Option.bind_some] at h
    cases hq : p l0 with
    | none => rw [hq] at h; cases h
    | some x => rw [hq] at h; obtain ⟨rfl, _⟩ := h; exact hp l0 x.1 x.2 (hs l0 rfl).2 hq

def cls0 : Cls := ⟨⟨#[]⟩, 0, [], [], false⟩
/-- What a class is read as: none, it isn't right. -/
def clsR (s : RS) : Option (Cls × List Nat) := (s.bind rdCls).bind fun x => if clsMay x.1 = true then some x else none
def clsRV (s : RS) : AV := match clsR s with
  | some (c, _) => .tup [.agg (encCls c), .bool true]
  | none => .tup [.agg (encCls cls0), .bool false]
def clsRS (s : RS) : RS := (clsR s).map (·.2)
theorem pure_clsRV (s : RS) : PureV (clsRV s) := by
  unfold clsRV
  split <;> exact .tup (pures_cons (.agg (pure_encCls _)) (pures1 (.bool _)))
theorem clsRS_bd {s : RS} (hs : Bd s) : Bd (clsRS s) := fun l h => by
  simp only [clsRS, clsR, Option.map_eq_some_iff, Option.bind_eq_some_iff] at h
  obtain ⟨x, ⟨y, ⟨l0, h1, h2⟩, h3⟩, h4⟩ := h
  split at h3
  · cases h3
    have := rdCls_ok l0 x.1 x.2 h2
    rw [h4] at this
    exact ⟨Nat.le_trans this.1 (hs l0 h1).1, fun w hw => (hs l0 h1).2 w (this.2 w hw)⟩
  · cases h3
theorem clsR_none {s : RS} {c : Cls} (h : Got rdCls s c none) : clsR s = none := by
  unfold Got at h
  unfold clsR
  cases hp : s.bind rdCls with
  | none => rfl
  | some x => rw [hp] at h; obtain ⟨_, h2⟩ := h; cases h2
theorem clsR_some {s : RS} {c : Cls} {l : List Nat} (h : Got rdCls s c (some l)) : clsR s = if clsMay c = true then some (c, l) else none := by
  unfold Got at h
  unfold clsR
  cases hp : s.bind rdCls with
  | none => rw [hp] at h; cases h
  | some x => rw [hp] at h; obtain ⟨rfl, h2⟩ := h; cases h2; rfl
end Go.Proofs
