/- What the functions that the statement reaches do: their contracts; and what follows of it. -/
import Derived.Test.YtdcpendppalkgaaSClassReads7
import Derived.Test.YtdcpendppalkgaaSClassReads6
/- Which classes there may be: the program's answer. -/
namespace Go.Proofs
open Go Go.RowKit Go.Am

theorem stepMay_parts (a : Int) (s u : Stp) : stepMay a (s, u) = (progMay s.code a && footMay s.foot a && compMay u a) := by
  rw [comp_back, stepMay]
  cases progMay s.code a <;> cases footMay s.foot a <;> cases footMay u.foot a <;> cases backMay u a <;> rfl

set_option maxHeartbeats 1000000 in
theorem classMay_ok (c : Cls) (hc : c.wf) : PCall Try.prog 33 [.agg (encCls c)] (.bool (clsMay c)) := by
  refine PCall.run hb33 ok33 (by simp) (pures1 (.agg (pure_encCls c))) (.bool _) ?_
  obtain ⟨hwn, hwa, ⟨hsl, hsw⟩, hcl, hcw⟩ := hc
  by_cases bad : (((((((c.name.size : Int) < 1 ∨ (16 : Int) < (c.name.size : Int)) ∨ c.args < 0) ∨ 3 < c.args) ∨ (c.steps.length : Int) < 1) ∨ (4 : Int) < (c.steps.length : Int)) ∨ ¬ c.comps.length = c.steps.length)
  · have hf : clsMay c = false := by
      simp only [clsMay, Bool.and_eq_false_iff, Bool.not_eq_false', decide_eq_true_eq, decide_eq_false_iff_not]
      omega
    simp (maxSteps := 2000000) +contextual -implicitDefEqProofs [↓gdL_T, ↓gdL_F, ↓condQ_b, -Int.not_lt, -Int.not_le, -Nat.not_lt, -Nat.not_le, hf, encCls, H.nil]
    all_goals (intros; omega)
  have hm : clsMay c = (c.steps.zip c.comps).all (stepMay c.args) := by
    simp only [clsMay, show ¬ c.name.size < 1 by omega, show ¬ 16 < c.name.size by omega, show ¬ c.args < 0 by omega, show ¬ 3 < c.args by omega, show ¬ c.steps.length < 1 by omega, show ¬ 4 < c.steps.length by omega, show c.comps.length = c.steps.length by omega]
    simp
  have hcs : c.comps.length = c.steps.length := by omega
  have e1 : ¬ (c.name.size : Int) < 1 := by omega
  have e2 : ¬ (16 : Int) < (c.name.size : Int) := by omega
  have e3 : ¬ c.args < 0 := by omega
  have e4 : ¬ 3 < c.args := by omega
  have e5 : ¬ (c.steps.length : Int) < 1 := by omega
  have e6 : ¬ (4 : Int) < (c.steps.length : Int) := by omega
  simp -implicitDefEqProofs [encCls, H.nil, e1, e2, e3, e4, e5, e6, hcs]
  refine callQ_s (each_ok c _) (by simp [encCls]) ?_
  simp -implicitDefEqProofs []
  generalize hS : (su _ 45 _ : Slots) = S
  have s1 : S 1 = .ptr 0 0 := by rw [← hS]; simp
  have s2 : S 2 = .ptr 1 0 := by rw [← hS]; simp
  have s45 : S 45 = .fn 127 [] [.ptr 2 0] := by rw [← hS]; simp
  clear hS
  have hzl : (c.steps.zip c.comps).length = c.steps.length := by simp [hcs]
  let q0 : LoopA := ⟨S, [46, 47], c33_x10, c33_y11, .ready, none⟩
  let qE : LoopA := ⟨S, [46, 47], c33_x10, c33_y11, .done, some .ret⟩
  let I : Nat → H → Prop := fun k h1 => 0 < h1.ln ∧ h1.lp 0 = some q0 ∧ 3 ≤ h1.bn ∧ h1.bx 0 = some (encCls c) ∧ h1.bx 1 = some [.bool false] ∧ h1.bx 2 = some (encCls c) ∧ ∀ i (hi : i < (c.steps.zip c.comps).length), i < k → stepMay c.args (c.steps.zip c.comps)[i] = true
  let J : H → Prop := fun h1 => 0 < h1.ln ∧ h1.lp 0 = some qE ∧ 3 ≤ h1.bn ∧ h1.bx 1 = some [.bool false] ∧ h1.bx 2 = some (encCls c) ∧ (c.steps.zip c.comps).all (stepMay c.args) = false
  refine .rngf (Z := fun _ h1 => I c.steps.length h1 ∨ J h1) (F := 127) (first := []) (caps := [.ptr 2 0]) rfl (by simpa using s45) (each1_ok c hcs hsl I J (fun k h' ⟨_, _, q1, _, _, q2, _⟩ => ⟨by omega, q2⟩) (fun h' ⟨_, _, q1, _, q2, _⟩ => ⟨by omega, q2⟩) ?_ ?_) ?_ ?_
  · rintro k h' k1 k2 ⟨j1, j2, j3, j4, j5, j6, j7⟩
    have hws := hsw _ (List.getElem_mem k1)
    have hwc := hcw _ (List.getElem_mem k2)
    have hp1 := hws.1.1
    have hp2 := hws.2.1
    have hlz : k < (c.steps.zip c.comps).length := by omega
    have j4' := j4
    rw [encCls] at j4
    have b1 : 0 < h'.bn := by omega
    have hbad : stepMay c.args (c.steps[k], c.comps[k]) = false → Run Try.prog true [.c c33_x10, .beg 0, .c c33_y11] (roundQ 0 fun r1 h1 => r1 = .bool false ∧ h1.lp 0 = some qE ∧ HF h' (h1.setLoop 0 (some q0)) (fun _ => False) (fun _ => False)) (slotsP S [46, 47] [.agg (encStp c.steps[k]), .agg (encStp c.comps[k])]) h' → ∃ r h'', SYld Try.prog 0 [.agg (encStp c.steps[k]), .agg (encStp c.comps[k])] h' (.bool r) h'' ∧ (r = true → I (k + 1) h'') ∧ (r = false → J h'') := fun hn hrun => by
      refine ⟨false, _, SYld.ro (q := q0) (q' := qE) j1 j2 rfl rfl (.bool _) hrun, (fun h => by cases h), fun _ => ⟨by simpa using j1, by simp, by simpa using j3, by simpa using j5, by simpa using j6, ?_⟩⟩
      exact all_take_false hlz (by rw [List.getElem_zip]; exact hn)
    have hgood : stepMay c.args (c.steps[k], c.comps[k]) = true → Run Try.prog true [.c c33_x10, .beg 0, .c c33_y11] (roundQ 0 fun r1 h1 => r1 = .bool true ∧ h1.lp 0 = some q0 ∧ HF h' (h1.setLoop 0 (some q0)) (fun _ => False) (fun _ => False)) (slotsP S [46, 47] [.agg (encStp c.steps[k]), .agg (encStp c.comps[k])]) h' → ∃ r h'', SYld Try.prog 0 [.agg (encStp c.steps[k]), .agg (encStp c.comps[k])] h' (.bool r) h'' ∧ (r = true → I (k + 1) h'') ∧ (r = false → J h'') := fun hn hrun => by
      refine ⟨true, _, SYld.ro (q := q0) (q' := q0) j1 j2 rfl rfl (.bool _) hrun, fun _ => ⟨by simpa using j1, by simp, by simpa using j3, by simpa using j4', by simpa using j5, by simpa using j6, fun i hi hij => ?_⟩, fun h => by cases h⟩
      by_cases h : i = k
      · subst h; rw [List.getElem_zip]; exact hn
      · exact j7 i hi (by omega)
    rw [stepMay_parts] at hbad hgood
    have z0 : ¬ 0 = h'.bn := by omega
    have z1 : ¬ 0 = h'.bn + 1 := by omega
    have z2 : ¬ 1 = h'.bn := by omega
    have z3 : ¬ 1 = h'.bn + 1 := by omega
    have z4 : ¬ h'.bn = 0 := by omega
    have b2 : 1 < h'.bn := by omega
    have c0 : 0 < h'.bn + 1 + 1 := by omega
    have c1 : 1 < h'.bn + 1 + 1 := by omega
    cases hp : progMay c.steps[k].code c.args
    · refine hbad (by simp [hp]) ?_
      simp -implicitDefEqProofs [slotsP, s1, j1, j2, j4, z0, z4, c0, q0, encStp]
      refine callQ_p (progMay_ok c.steps[k].code c.args hp1) (by simp) ?_
      simp -implicitDefEqProofs [slotsP, s2, j1, j5, z2, z4, c1, q0, roundQ, encStp, hp]
      refine ⟨rfl, by simp; omega, fun b hb hn => ?_, by simp, by simp, by simp, fun l hl => ?_, by simp, by simp⟩
      · by_cases h1 : b = 1
        · subst h1; simp [j5]
        · simp [show ¬ b = h'.bn by omega, show ¬ b = h'.bn + 1 by omega, h1]
      · by_cases h0 : l = 0
        · subst h0; simp [j2, q0]
        · simp [h0]
    cases hq : footMay c.steps[k].foot c.args
    · refine hbad (by simp [hp, hq]) ?_
      simp -implicitDefEqProofs [slotsP, s1, j1, j2, j4, z0, z4, c0, q0, encStp]
      refine callQ_p (progMay_ok c.steps[k].code c.args hp1) (by simp) ?_
      simp -implicitDefEqProofs [slotsP, s1, j4, z0, z4, c0, encStp, hp]
      refine callQ_p (footMay_ok c.steps[k].foot c.args hp2) (by simp) ?_
      simp -implicitDefEqProofs [slotsP, s2, j1, j5, z2, z4, c1, q0, roundQ, encStp, hq]
      refine ⟨rfl, by simp; omega, fun b hb hn => ?_, by simp, by simp, by simp, fun l hl => ?_, by simp, by simp⟩
      · by_cases h1 : b = 1
        · subst h1; simp [j5]
        · simp [show ¬ b = h'.bn by omega, show ¬ b = h'.bn + 1 by omega, h1]
      · by_cases h0 : l = 0
        · subst h0; simp [j2, q0]
        · simp [h0]
    cases hr : compMay c.comps[k] c.args
    · refine hbad (by simp [hp, hq, hr]) ?_
      simp -implicitDefEqProofs [slotsP, s1, j1, j2, j4, z0, z4, c0, q0, encStp]
      refine callQ_p (progMay_ok c.steps[k].code c.args hp1) (by simp) ?_
      simp -implicitDefEqProofs [slotsP, s1, j4, z0, z4, c0, encStp, hp]
      refine callQ_p (footMay_ok c.steps[k].foot c.args hp2) (by simp) ?_
      simp -implicitDefEqProofs [slotsP, s1, j4, z0, z4, c0, encStp, hq]
      refine callQ_p (mayComp_ok c.comps[k] c.args hwc) (by simp [encStp]) ?_
      simp -implicitDefEqProofs [slotsP, s2, j1, j5, z2, z4, c1, q0, roundQ, encStp, hr]
      refine ⟨rfl, by simp; omega, fun b hb hn => ?_, by simp, by simp, by simp, fun l hl => ?_, by simp, by simp⟩
      · by_cases h1 : b = 1
        · subst h1; simp [j5]
        · simp [show ¬ b = h'.bn by omega, show ¬ b = h'.bn + 1 by omega, h1]
      · by_cases h0 : l = 0
        · subst h0; simp [j2, q0]
        · simp [h0]
    · refine hgood (by simp [hp, hq, hr]) ?_
      simp -implicitDefEqProofs [slotsP, s1, j1, j2, j4, z0, z4, c0, q0, encStp]
      refine callQ_p (progMay_ok c.steps[k].code c.args hp1) (by simp) ?_
      simp -implicitDefEqProofs [slotsP, s1, j4, z0, z4, c0, encStp, hp]
      refine callQ_p (footMay_ok c.steps[k].foot c.args hp2) (by simp) ?_
      simp -implicitDefEqProofs [slotsP, s1, j4, z0, z4, c0, encStp, hq]
      refine callQ_p (mayComp_ok c.comps[k] c.args hwc) (by simp [encStp]) ?_
      simp -implicitDefEqProofs [slotsP, j1, q0, roundQ, encStp, hr]
      refine ⟨by simp; omega, fun b hb hn => ?_, by simp, by simp, by simp, fun l hl => ?_, by simp, by simp⟩
      · by_cases h1 : b = 1
        · subst h1; simp [j5, z2, z4]
        · simp [show ¬ b = h'.bn by omega, show ¬ b = h'.bn + 1 by omega]
      · by_cases h0 : l = 0
        · subst h0; simp [j2, q0]
        · simp [h0]
  · exact ⟨by simp, by simp [q0], by simp, by simp [encCls], by simp, by simp [encCls], fun i hi hij => absurd hij (by omega)⟩
  · rintro v h2 (⟨j1, j2, _⟩ | ⟨j1, j2, _⟩)
    · exact ⟨j1, _, j2, by simp [q0]⟩
    · exact ⟨j1, _, j2, by simp [qE]⟩
  · rintro v h2 q (⟨j1, j2, j3, j4, j5, j6, j7⟩ | ⟨j1, j2, j3, j5, j6, j7⟩) hq
    · have hw := all_whole (p := stepMay c.args) (l := c.steps.zip c.comps) (j := c.steps.length) (by omega) j7
      replace hq : h2.lp 0 = some q := hq
      rw [j2] at hq
      cases hq
      simp -implicitDefEqProofs [pendK, q0, s2, j5, show 1 < h2.bn by omega, hm, hw]
    · replace hq : h2.lp 0 = some q := hq
      rw [j2] at hq
      cases hq
      simp -implicitDefEqProofs [pendK, qE, s2, j5, show 1 < h2.bn by omega, hm, j7]
end Go.Proofs

/- What is read as a class: plain laws. -/
namespace Go.Proofs
open Go Go.RowKit Go.Am

/-- All that is read is such. -/
def RdAll {α : Type} (p : Rd α) (Q : α → Prop) : Prop := ∀ l a l', (∀ w ∈ l, w < 18446744073709551616) → p l = some (a, l') → Q a
theorem RdAll.bind {α β : Type} {p : Rd α} {q : α → Rd β} {R : α → Prop} {Q : β → Prop} (hp : RdAll p R) (ho : RdOK p) (hq : ∀ a, R a → RdAll (q a) Q) : RdAll (p.bind q) Q := fun l b l' hw h => by
  simp only [Rd.bind, Option.bind_eq_some_iff] at h
  obtain ⟨⟨a, l1⟩, h1, h2⟩ := h
  exact hq a (hp l a l1 hw h1) l1 b l' (fun w hm => hw w ((ho l a l1 h1).2 w hm)) h2
theorem RdAll.pure {α : Type} {a : α} {Q : α → Prop} (h : Q a) : RdAll (Rd.pure a) Q := fun l b l' _ e => by
  simp only [Rd.pure, Option.some.injEq, Prod.mk.injEq] at e
  obtain ⟨rfl, _⟩ := e
  exact h
theorem RdAll.none {α : Type} {Q : α → Prop} : RdAll (Rd.none) Q := fun l b l' _ e => by cases e
theorem RdAll.rep {α : Type} {p : Rd α} {Q : α → Prop} (hp : RdAll p Q) (ho : RdOK p) : ∀ k, RdAll (Rd.rep p k) fun L => L.length = k ∧ ∀ a ∈ L, Q a
  | 0 => RdAll.pure ⟨rfl, fun a h => by cases h⟩
  | k + 1 => (RdAll.rep hp ho k).bind (ho.rep k) fun L ⟨h1, h2⟩ => hp.bind ho fun a ha => RdAll.pure ⟨by rw [List.length_append, h1]; rfl, fun x hx => by
    rcases List.mem_append.1 hx with h | h
    · exact h2 x h
    · rw [List.mem_singleton.1 h]; exact ha⟩
theorem rdCount_all (most : Int) : RdAll (rdCount most) fun n => 0 ≤ n ∧ n ≤ most := fun l a l' _ h => by
  cases l with
  | nil => cases h
  | cons w l =>
    simp only [rdCount] at h
    split at h
    · cases h; omega
    · cases h
theorem rdSigned_all : RdAll rdSigned inI := fun l a l' hw h => by
  cases l with
  | nil => cases h
  | cons w l =>
    simp only [rdSigned, Option.some.injEq, Prod.mk.injEq] at h
    obtain ⟨rfl, _⟩ := h
    exact backI_in (hw w (List.mem_cons_self ..))
theorem rdText_all : RdAll rdText fun s => s.size ≤ 64 := fun l a l' hw h => by
  simp only [rdText, Option.bind_eq_some_iff] at h
  obtain ⟨⟨n, l1⟩, h1, ⟨ws, l2⟩, h2, h3⟩ := h
  have := rdCount_all 64 l n l1 hw h1
  simp only at h3
  split at h3
  · simp only [Option.some.injEq, Prod.mk.injEq] at h3
    obtain ⟨rfl, _⟩ := h3
    rw [unpack_size]; omega
  · cases h3
theorem rdFlag_all : RdAll rdFlag fun _ => True := fun _ _ _ _ _ => trivial
theorem rdKey_all : RdAll rdKey KeyT.wf := rdSigned_all.bind rdSigned_ok fun a ha => by
  split
  · exact RdAll.none
  · exact (rdCount_all 999).bind (rdCount_ok _) fun n hn => RdAll.pure ⟨ha, by simp only [inI]; omega⟩
theorem rdInst_all : RdAll rdInst Inst.wf :=
  (rdCount_all 255).bind (rdCount_ok _) fun a1 h1 => (rdCount_all 255).bind (rdCount_ok _) fun a2 h2 => (rdCount_all 255).bind (rdCount_ok _) fun a3 h3 => (rdCount_all 255).bind (rdCount_ok _) fun a4 h4 =>
    rdKey_all.bind rdKey_ok fun k hk => rdKey_all.bind rdKey_ok fun l hl => rdSigned_all.bind rdSigned_ok fun x hx => RdAll.pure ⟨by simp only [inI]; omega, by simp only [inI]; omega, by simp only [inI]; omega, by simp only [inI]; omega, hk, hl, hx⟩
theorem rdSpanT_all : RdAll rdSpanT SpanT.wf := rdKey_all.bind rdKey_ok fun k hk => rdKey_all.bind rdKey_ok fun l hl => rdFlag_all.bind rdFlag_ok fun _ _ => RdAll.pure ⟨hk, hl⟩
theorem rdProg_all : RdAll rdProg fun l => l.length ≤ 8 ∧ ∀ x ∈ l, x.wf := (rdCount_all 8).bind (rdCount_ok _) fun n hn => fun l a l' hw h => by
  obtain ⟨h1, h2⟩ := rdInst_all.rep rdInst_ok n.toNat l a l' hw h
  exact ⟨by omega, h2⟩
theorem rdFoot_all : RdAll rdFoot fun l => l.length ≤ 4 ∧ ∀ x ∈ l, x.wf := (rdCount_all 4).bind (rdCount_ok _) fun n hn => fun l a l' hw h => by
  obtain ⟨h1, h2⟩ := rdSpanT_all.rep rdSpanT_ok n.toNat l a l' hw h
  exact ⟨by omega, h2⟩
theorem rdStp_all : RdAll rdStp Stp.wf := rdProg_all.bind rdProg_ok fun c hc => rdFoot_all.bind rdFoot_ok fun f hf => RdAll.pure ⟨⟨by simp only [maxLen]; omega, hc.2⟩, by simp only [maxLen]; omega, hf.2⟩
theorem rdPair_all : RdAll rdPair fun p => p.1.wf ∧ p.2.wf := rdStp_all.bind rdStp_ok fun s hs => rdStp_all.bind rdStp_ok fun u hu => RdAll.pure ⟨hs, hu⟩
theorem rdCls_all : RdAll rdCls Cls.wf := rdText_all.bind rdText_ok fun name hname => (rdCount_all 3).bind (rdCount_ok _) fun args hargs => (rdCount_all 4).bind (rdCount_ok _) fun n hn =>
  (rdPair_all.rep rdPair_ok n.toNat).bind (rdPair_ok.rep _) fun L hL => rdFlag_all.bind rdFlag_ok fun r _ => RdAll.pure ⟨by simp only [maxLen]; omega, by simp only [inI]; omega,
    ⟨by simp only [maxLen, List.length_map]; omega, fun y hy => by obtain ⟨p, hp, rfl⟩ := List.mem_map.1 hy; exact (hL.2 p hp).1⟩,
    by simp only [maxLen, List.length_map]; omega, fun y hy => by obtain ⟨p, hp, rfl⟩ := List.mem_map.1 hy; exact (hL.2 p hp).2⟩

theorem Got.all {α : Type} {p : Rd α} {Q : α → Prop} (hp : RdAll p Q) {s : RS} (hs : Bd s) {a : α} {l : List Nat} (h : Got p s a (some l)) : Q a := by
  unfold Got at h
  cases s with
  | none => simp at h
  | some l0 =>
    simp only [Option.bind_some] at h
    cases hq : p l0 with
    | none => rw [hq] at h; cases h
    | some x => rw [hq] at h; obtain ⟨rfl, _⟩ := h; exact hp l0 x.1 x.2 (hs l0 rfl).2 hq

def cls0 : Cls := ⟨⟨#[]⟩, 0, [], [], false⟩
/-- What a class is read as: none, it isn't right. -/
def clsR (s : RS) : Option (Cls × List Nat) := (s.bind rdCls).bind fun x => if clsMay x.1 = true then some x else none
def clsRV (s : RS) : AV := match clsR s with
  | some (c, _) => .tup [.agg (encCls c), .bool true]
  | none => .tup [.agg (encCls cls0), .bool false]
def clsRS (s : RS) : RS := (clsR s).map (·.2)
theorem pure_clsRV (s : RS) : PureV (clsRV s) := by
  unfold clsRV
  split <;> exact .tup (pures_cons (.agg (pure_encCls _)) (pures1 (.bool _)))
theorem clsRS_bd {s : RS} (hs : Bd s) : Bd (clsRS s) := fun l h => by
  simp only [clsRS, clsR, Option.map_eq_some_iff, Option.bind_eq_some_iff] at h
  obtain ⟨x, ⟨y, ⟨l0, h1, h2⟩, h3⟩, h4⟩ := h
  split at h3
  · cases h3
    have := rdCls_ok l0 x.1 x.2 h2
    rw [h4] at this
    exact ⟨Nat.le_trans this.1 (hs l0 h1).1, fun w hw => (hs l0 h1).2 w (this.2 w hw)⟩
  · cases h3
theorem clsR_none {s : RS} {c : Cls} (h : Got rdCls s c none) : clsR s = none := by
  unfold Got at h
  unfold clsR
  cases hp : s.bind rdCls with
  | none => rfl
  | some x => rw [hp] at h; obtain ⟨_, h2⟩ := h; cases h2
theorem clsR_some {s : RS} {c : Cls} {l : List Nat} (h : Got rdCls s c (some l)) : clsR s = if clsMay c = true then some (c, l) else none := by
  unfold Got at h
  unfold clsR
  cases hp : s.bind rdCls with
  | none => rw [hp] at h; cases h
  | some x => rw [hp] at h; obtain ⟨rfl, h2⟩ := h; cases h2; rfl
end Go.Proofs

/- The program's reader of classes. -/
namespace Go.Proofs
open Go Go.RowKit Go.Am

def clsCells (name : ByteArray) (args : Int) (t t' : Tok) (L : List (Stp × Stp)) (r : Bool) : List AV := [.str name, .int .i64 args, .sl t (L.map fun p => encStp p.1), .sl t' (L.map fun p => encStp p.2), .bool r]
/-- What the loop over the steps has read. -/
structure CLoop (h : H) (b : Nat) (s1 : RS) (name : ByteArray) (args : Int) (j : Nat) (h1 : H) (sj : RS) (L : List (Stp × Stp)) (t t' : Tok) : Prop where
  to : RTo h b h1 sj
  got : Got (Rd.rep rdPair j) s1 L sj
  len : L.length = j
  bx : h1.bx (h.bn + 1) = some (clsCells name args t t' L false)
  b0 : h1.bx h.bn = some [.str ⟨#[]⟩, .int .i64 0, .sl .full [], .sl .full [], .bool false]
  bn : h.bn + 1 < h1.bn
  live : TLive h1 t j
  live' : TLive h1 t' j
  new : TNew h t
  new' : TNew h t'
  apart : TApart t t'

set_option maxHeartbeats 2000000 in
theorem classGet_rd {h : H} {b : Nat} {s : RS} (hr : RIs h b s) : RdX 11 [.ptr b 0] h b (clsRV s) (clsRS s) := by
  refine RdX.mk' hr (clsRS_bd hr.bd) (pure_clsRV s) (CallP.run hb11 ok11 (by simp) ?_)
  have hb := hr.blt
  have z0 : ¬ h.bn = b := by omega
  have z1 : ¬ h.bn + 1 = b := by omega
  have z2 : ¬ b = h.bn := by omega
  have z3 : ¬ b = h.bn + 1 := by omega
  simp -implicitDefEqProofs []
  refine callQ_r (text_rd (hr.alloc _)).q (by simp) fun name s1 q1 g1 => ?_
  simp -implicitDefEqProofs []
  refine callQ_r (count_rd (most := 3) q1.is (by simp [inI])).q (by simp) fun args s2 q2 g2 => ?_
  have k2 := RTo.al (RTo.refl hr) [.str ⟨#[]⟩, .int .i64 0, .sl .full [], .sl .full [], .bool false] |>.trans (q1.trans q2)
  have k3 := RTo.so (RTo.al k2 [.str ⟨#[]⟩, .int .i64 0, .sl .full [], .sl .full [], .bool false]) (b' := h.bn + 1) (Nat.le_succ _) hb [.str name, .int .i64 args, .sl .full [], .sl .full [], .bool false]
  simp -implicitDefEqProofs []
  have hn := count_rd k3.is (most := 4) (by simp [inI])
  refine callQ_s hn.call (by simp) ?_
  have q := hn.to
  have g := Got.runS (rdCount 4) 0 s2
  have hin := rdCount_in (most := 4) (by simp [inI]) s2
  clear hn
  generalize runS (rdCount 4) 0 s2 = x at q g hin ⊢
  obtain ⟨n, s3⟩ := x
  simp only at q g hin
  obtain ⟨N, rfl⟩ := Int.eq_ofNat_of_zero_le hin.1
  have hN : N ≤ 4 := by omega
  have k4 := k3.trans q
  simp -implicitDefEqProofs []
  refine run_loop (fun m S h1 => ∃ (j : Nat) (sj : RS) (L : List (Stp × Stp)) (t t' : Tok), m = N - j ∧ j ≤ N ∧ S 0 = .ptr b 0 ∧ S 2 = .ptr h.bn 0 ∧ S 4 = .ptr (h.bn + 1) 0 ∧ S 11 = .int .i64 N ∧ S 12 = .int .i64 j ∧ CLoop h b s3 name args j h1 sj L t t') ?_ N ?_
  rotate_left
  · exact ⟨0, s3, [], .full, .full, rfl, Nat.zero_le _, by simp, by simp, by simp, by simp, by simp, ⟨k4, Got.pure _ _, rfl, by simp [z1, clsCells], by simp [z0], by simp, trivial, trivial, TNew.full _, TNew.full _, fun i h => by cases h⟩⟩
  clear k4 k3 k2 q
  rintro m S h1 ⟨j, sj, L, t, t', hm, hj, t0, t2, t4, t11, t12, hL⟩ ih
  have hbn : h.bn ≤ h1.bn := hL.to.keep.bn
  have hn1 := hL.bn
  have hbx := hL.bx
  rw [clsCells] at hbx
  by_cases hlt : j < N
  · simp -implicitDefEqProofs [t11, t12, hlt]
    refine run_dreg c11_d5 ?_
    have f1 := step_rd hL.to.is
    have q1 := f1.to
    simp -implicitDefEqProofs [t0, t4, hbx, hn1]
    refine callD_s f1.call (by simp) ?_
    have k1 := hL.to.trans q1
    simp -implicitDefEqProofs []
    refine appQ_tok (t := t) (es := L.map (fun p : Stp × Stp => encStp p.1)) (es2 := [encStp (stpV sj)]) (by simpa [hL.len] using hL.live) (fun e he => by obtain ⟨p, _, rfl⟩ := List.mem_map.1 he; rfl) (by simp [srcA, encStp]) (by simp [hL.len]; omega) fun ta h3 p1 p2 p3 p4 => ?_
    have e3 : h3.bx (h.bn + 1) = some [.str name, .int .i64 args, .sl t (L.map fun p => encStp p.1), .sl t' (L.map fun p => encStp p.2), .bool false] := by rw [p3.bx _ (by simpa using hn1) (fun h => h)]; simp [z1, hbx]
    have e0 : h3.bx h.bn = some [.str ⟨#[]⟩, .int .i64 0, .sl .full [], .sl .full [], .bool false] := by rw [p3.bx _ (by simp; omega) (fun h => h)]; simp [z0, hL.b0]
    have n3 : h.bn + 1 < h3.bn := by rw [p4]; exact hn1
    have l3 : TLive h3 t' j := (by simpa using hL.live' : TLive (h1.set b (encRS (stpS sj))) t' j).keep p3 fun i hi ho => hL.apart i ho hi
    have a3 : TApart ta t' := (TApart.next (h := h1.set b (encRS (stpS sj))) (by simpa using hL.live') hL.apart.symm p2).symm
    have k3 := (k1.app hL.new p3).so (b' := h.bn + 1) (Nat.le_succ _) hb [.str name, .int .i64 args, .sl ta (L.map (fun p : Stp × Stp => encStp p.1) ++ [encStp (stpV sj)]), .sl t' (L.map fun p => encStp p.2), .bool false]
    simp -implicitDefEqProofs [t4, hbx, hn1, z1, e3, n3]
    refine run_dreg c11_d6 ?_
    have f2 := step_rd k3.is
    have q2 := f2.to
    have k4 := k3.trans q2
    simp -implicitDefEqProofs [t0, t4, n3]
    refine callD_s f2.call (by simp) ?_
    simp -implicitDefEqProofs []
    refine appQ_tok (t := t') (es := L.map (fun p : Stp × Stp => encStp p.2)) (es2 := [encStp (stpV (stpS sj))]) (by simpa [hL.len] using l3) (fun e he => by obtain ⟨p, _, rfl⟩ := List.mem_map.1 he; rfl) (by simp [srcA, encStp]) (by simp [hL.len]; omega) fun tb h4 r1 r2 r3 r4 => ?_
    have e4 : h4.bx (h.bn + 1) = some [.str name, .int .i64 args, .sl ta (L.map (fun p : Stp × Stp => encStp p.1) ++ [encStp (stpV sj)]), .sl t' (L.map fun p => encStp p.2), .bool false] := by rw [r3.bx _ (by simpa using n3) (fun h => h)]; simp [z1]
    have e5 : h4.bx h.bn = some [.str ⟨#[]⟩, .int .i64 0, .sl .full [], .sl .full [], .bool false] := by rw [r3.bx _ (by simp; omega) (fun h => h)]; simp [z0, e0]
    have n4 : h.bn + 1 < h4.bn := by rw [r4]; exact n3
    simp -implicitDefEqProofs [t4, t12, z1, e4, n4, n3, inc_i64 hlt (show N ≤ _ by omega), -Int.natCast_add]
    have k5 := (k4.app hL.new' r3).so (b' := h.bn + 1) (Nat.le_succ _) hb (clsCells name args ta tb (L ++ [(stpV sj, stpV (stpS sj))]) false)
    have lta : TLive h3 ta (j + 1) := by simpa [hL.len] using p1
    have lta4 : TLive h4 ta (j + 1) := (by simpa using lta : TLive ((h3.set (h.bn + 1) [.str name, .int .i64 args, .sl ta (L.map (fun p : Stp × Stp => encStp p.1) ++ [encStp (stpV sj)]), .sl t' (L.map fun p => encStp p.2), .bool false]).set b (encRS (stpS (stpS sj)))) ta (j + 1)).keep r3 fun i hi ho => a3 i hi ho
    have ltb4 : TLive h4 tb (j + 1) := by simpa [hL.len] using r1
    have aab : TApart ta tb := TApart.next (h := (h3.set (h.bn + 1) [.str name, .int .i64 args, .sl ta (L.map (fun p : Stp × Stp => encStp p.1) ++ [encStp (stpV sj)]), .sl t' (L.map fun p => encStp p.2), .bool false]).set b (encRS (stpS (stpS sj)))) (by simpa using lta) a3 r2
    have gg : Got rdPair sj (stpV sj, stpV (stpS sj)) (stpS (stpS sj)) := (stp_got sj).bind ((stp_got _).bind (Got.pure _ _))
    rw [clsCells, List.map_append, List.map_append] at k5
    exact ih (N - (j + 1)) _ _ (by omega) ⟨j + 1, _, L ++ [(stpV sj, stpV (stpS sj))], ta, tb, rfl, by omega, by simp [t0], by simp [t2], by simp [t4], by simp [t11], by simp, ⟨k5, hL.got.bind (gg.bind (Got.pure _ _)), by simp [hL.len], by simp [clsCells], by simp [e5], by simpa using n4, by simpa using lta4, by simpa using ltb4, hL.new.next k1.keep p2, hL.new'.next k4.keep r2, aab⟩⟩
  · obtain rfl : j = N := by omega
    simp -implicitDefEqProofs [t0, t11, t12]
    have hfl := flag_rd hL.to.is
    refine callQ_s hfl.call (by simp) ?_
    have q3 := hfl.to
    have g3 := Got.runS rdFlag false sj
    clear hfl
    generalize runS rdFlag false sj = y at q3 g3 ⊢
    obtain ⟨fl, s5⟩ := y
    simp only at q3 g3
    have k6 := (hL.to.trans q3).so (b' := h.bn + 1) (Nat.le_succ _) hb (clsCells name args t t' L fl)
    rw [clsCells] at k6
    have b0 := hL.b0
    have hgc : Got rdCls s ⟨name, args, L.map (·.1), L.map (·.2), fl⟩ s5 := g1.bind (g2.bind (g.bind ((by rw [Int.toNat_natCast]; exact hL.got : Got (Rd.rep rdPair (j : Int).toNat) s3 L sj).bind (g3.bind (Got.pure _ _)))))
    simp -implicitDefEqProofs [t0, t4, hn1, hbx, z1]
    refine callQ_s (rOk_ok k6.is) (by simp) ?_
    have hend : ∀ (X : H) (s6 : RS), RTo h b X s6 → clsR s = none → h.bn + 1 < X.bn → X.bx h.bn = some [.str ⟨#[]⟩, .int .i64 0, .sl .full [], .sl .full [], .bool false] → callQ Try.prog (.fn 35 [] []) [.ptr b 0, .int .i64 (-1)] X fun r h2 => RFin h b h2 (clsRS s) ∧ h2.bn = X.bn ∧ h2.bx h.bn = X.bx h.bn := fun X s6 kx hcn hxn hxb => by
      refine callQ_r (count_rd (most := -1) kx.is (by simp [inI])).q (by simp) fun n s7 q7 g7 => ?_
      have hs7 : s7 = none := by
        have := g7
        unfold Got at this
        cases s6 with
        | none => exact this
        | some l => cases l <;> simpa [rdCount] using this
      subst hs7
      refine ⟨?_, rfl, by simp [z0]⟩
      have : clsRS s = none := by simp [clsRS, hcn]
      rw [this]
      exact (kx.trans q7).fin
    have hc0 : ∀ (c0 : clsR s = none), clsRV s = .tup [.agg [.str ⟨#[]⟩, .int .i64 0, .sl .no [], .sl .no [], .bool false], .bool false] := fun c0 => by simp [clsRV, c0, cls0, encCls]
    cases s5 with
    | none =>
      have hcn := clsR_none hgc
      have hrv := hc0 hcn
      simp -implicitDefEqProofs [t0]
      refine callQ_mono (fun r h2 ⟨r1, r2, r3⟩ => ?_) (hend _ none k6 hcn (by simpa using hn1) (by simp [z0, b0]))
      have n2 : h.bn < h2.bn := by rw [r2]; simp; omega
      have b2 : h2.bx h.bn = some [.str ⟨#[]⟩, .int .i64 0, .sl .full [], .sl .full [], .bool false] := by rw [r3]; simp [z0, b0]
      simp -implicitDefEqProofs [t2, n2, b2, hrv]
      exact r1.so (Nat.le_refl _) hb _
    | some l =>
      have hcs := clsR_some hgc
      have hwf := Got.all rdCls_all hr.bd hgc
      simp -implicitDefEqProofs [t4, hn1]
      refine callQ_p (classMay_ok _ hwf) (by simp [encCls, Function.comp_def]) ?_
      cases hcm : clsMay ⟨name, args, L.map (·.1), L.map (·.2), fl⟩
      · have hcn : clsR s = none := by rw [hcs, hcm]; rfl
        have hrv := hc0 hcn
        simp -implicitDefEqProofs [t0]
        refine callQ_mono (fun r h2 ⟨r1, r2, r3⟩ => ?_) (hend _ (some l) k6 hcn (by simpa using hn1) (by simp [z0, b0]))
        have n2 : h.bn < h2.bn := by rw [r2]; simp; omega
        have b2 : h2.bx h.bn = some [.str ⟨#[]⟩, .int .i64 0, .sl .full [], .sl .full [], .bool false] := by rw [r3]; simp [z0, b0]
        simp -implicitDefEqProofs [t2, n2, b2, hrv]
        exact r1.so (Nat.le_refl _) hb _
      · have hcy : clsR s = some (⟨name, args, L.map (·.1), L.map (·.2), fl⟩, l) := by rw [hcs, hcm]; rfl
        have hrv : clsRV s = .tup [.agg (encCls ⟨name, args, L.map (·.1), L.map (·.2), fl⟩), .bool true] := by simp [clsRV, hcy]
        have hrs : clsRS s = some l := by simp [clsRS, hcy]
        simp -implicitDefEqProofs [t2, t4, hn1, z0, b0, hrv, hrs, show h.bn < h1.bn by omega]
        exact ⟨by simp [encCls, Function.comp_def], (k6.so (Nat.le_refl _) hb _).fin⟩
end Go.Proofs

/- The document's reader of classes. -/
namespace Go.Proofs
open Go Go.RowKit Go.Am

set_option maxHeartbeats 2000000 in
theorem refClassGet_rd {h : H} {b : Nat} {s : RS} (hr : RIs h b s) : RdX 12 [.ptr b 0] h b (clsRV s) (clsRS s) := by
  refine RdX.mk' hr (clsRS_bd hr.bd) (pure_clsRV s) (CallP.run hb12 ok12 (by simp) ?_)
  have hb := hr.blt
  have z0 : ¬ h.bn = b := by omega
  have z1 : ¬ h.bn + 1 = b := by omega
  have z2 : ¬ b = h.bn := by omega
  have z3 : ¬ b = h.bn + 1 := by omega
  have k0 := RTo.al (RTo.al (RTo.refl hr) [.str ⟨#[]⟩, .int .i64 0, .sl .full [], .sl .full [], .bool false]) [.str ⟨#[]⟩, .int .i64 0, .sl .full [], .sl .full [], .bool false]
  simp -implicitDefEqProofs []
  refine callQ_item rdText ⟨#[]⟩ (·.s) (by simp [inI]) k0.is (item_text s) (by simp) fun v1 s1 _ _ q1 g1 => ?_
  have k1 := (k0.trans q1).so (b' := h.bn + 1) (Nat.le_succ _) hb [.str v1.s, .int .i64 0, .sl .full [], .sl .full [], .bool false]
  simp -implicitDefEqProofs [encItm, z1]
  refine callQ_item (rdCount 3) 0 (·.n) (by simp [inI]) k1.is (item_count 3 s1) (by simp) fun v2 s2 _ _ q2 g2 => ?_
  have k2 := (k1.trans q2).so (b' := h.bn + 1) (Nat.le_succ _) hb [.str v1.s, .int .i64 v2.n, .sl .full [], .sl .full [], .bool false]
  simp -implicitDefEqProofs [encItm, z1]
  refine callQ_item (rdCount 4) 0 (·.n) (by simp [inI]) k2.is (item_count 4 s2) (by simp) fun v3 s3 e3 _ q3 g3 => ?_
  have hin := rdCount_in (most := 4) (by simp [inI]) s2
  rw [← e3] at hin
  obtain ⟨N, hNe⟩ := Int.eq_ofNat_of_zero_le hin.1
  have hN : N ≤ 4 := by omega
  rw [hNe] at g3
  have k3 := k2.trans q3
  simp -implicitDefEqProofs [encItm, hNe]
  generalize hname : v1.s = name at *
  generalize hargs : v2.n = args at *
  refine run_loop (fun m S h1 => ∃ (j : Nat) (sj : RS) (L : List (Stp × Stp)) (t t' : Tok), m = N - j ∧ j ≤ N ∧ S 0 = .ptr b 0 ∧ S 2 = .ptr h.bn 0 ∧ S 4 = .ptr (h.bn + 1) 0 ∧ S 5 = .int .i64 N ∧ S 6 = .int .i64 j ∧ CLoop h b s3 name args j h1 sj L t t') ?_ N ?_
  rotate_left
  · exact ⟨0, s3, [], .full, .full, rfl, Nat.zero_le _, by simp, by simp, by simp, by simp, by simp, ⟨k3, Got.pure _ _, rfl, by simp [z1, clsCells], by simp [z0], by simp, trivial, trivial, TNew.full _, TNew.full _, fun i h => by cases h⟩⟩
  clear k3 k2 k1 k0 q3 q2 q1
  rintro m S h1 ⟨j, sj, L, t, t', hm, hj, t0, t2, t4, t5, t6, hL⟩ ih
  have hbn : h.bn ≤ h1.bn := hL.to.keep.bn
  have hn1 := hL.bn
  have hbx := hL.bx
  rw [clsCells] at hbx
  have hb1 : b < h1.bn := by omega
  by_cases hlt : j < N
  · have y0 : ¬ b = h1.bn := by omega
    have y1 : ¬ h1.bn = b := by omega
    have y2 : ¬ h1.bn + 1 = b := by omega
    have y3 : ¬ h.bn + 1 = h1.bn := by omega
    have y4 : ¬ h.bn + 1 = h1.bn + 1 := by omega
    have y5 : h.bn + 1 < h1.bn + 1 + 1 := by omega
    have y6 : ¬ h.bn = h1.bn := by omega
    have y7 : ¬ h.bn = h1.bn + 1 := by omega
    have k0 := RTo.al (RTo.al (RTo.refl hL.to.is) [.sl .full [], .sl .full []]) [.sl .full [], .sl .full []]
    simp -implicitDefEqProofs [t0, t5, t6, hlt]
    refine callQ_r (refProgGet_rd k0.is).q (by simp) fun c1 u1 q1 g1 => ?_
    have k1 := (k0.trans q1).so (b' := h1.bn) (Nat.le_refl _) hb1 [.sl .no (c1.map encInst), .sl .full []]
    simp -implicitDefEqProofs [t0, y1]
    refine callQ_r (refFootGet_rd k1.is).q (by simp) fun f1 u2 q2 g2 => ?_
    have k2 := (k1.trans q2).so (b' := h1.bn) (Nat.le_refl _) hb1 [.sl .no (c1.map encInst), .sl .no (f1.map encSpanT)]
    simp -implicitDefEqProofs [t0, y1]
    refine callQ_r (refProgGet_rd k2.is).q (by simp) fun c2 u3 q3 g3 => ?_
    have k3 := (k2.trans q3).so (b' := h1.bn + 1) (Nat.le_succ _) hb1 [.sl .no (c2.map encInst), .sl .full []]
    simp -implicitDefEqProofs [t0, y2]
    refine callQ_r (refFootGet_rd k3.is).q (by simp) fun f2 u4 q4 g4 => ?_
    have k4 := (k3.trans q4).so (b' := h1.bn + 1) (Nat.le_succ _) hb1 [.sl .no (c2.map encInst), .sl .no (f2.map encSpanT)]
    have kk := hL.to.trans k4
    have y8 : h.bn < h1.bn + 1 := by omega
    simp -implicitDefEqProofs [t4, y1, y2, y3, y5, y6, z1, hbx]
    refine appQ_tok (t := t) (es := L.map (fun p : Stp × Stp => encStp p.1)) (es2 := [encStp ⟨c1, f1⟩]) (by simpa [hL.len] using hL.live) (fun e he => by obtain ⟨p, _, rfl⟩ := List.mem_map.1 he; rfl) (by simp [srcA, encStp]) (by simp [hL.len]; omega) fun ta h3 p1 p2 p3 p4 => ?_
    have e3 : h3.bx (h.bn + 1) = some [.str name, .int .i64 args, .sl t (L.map fun p => encStp p.1), .sl t' (L.map fun p => encStp p.2), .bool false] := by rw [p3.bx _ (by simp; omega) (fun h => h)]; simp [y3, y6, z1, hbx]
    have e8 : h3.bx (h1.bn + 1) = some [.sl .no (c2.map encInst), .sl .no (f2.map encSpanT)] := by rw [p3.bx _ (by simp) (fun h => h)]; simp
    have e0 : h3.bx h.bn = some [.str ⟨#[]⟩, .int .i64 0, .sl .full [], .sl .full [], .bool false] := by rw [p3.bx _ (by simp; omega) (fun h => h)]; simp [y6, y7, z0, hL.b0]
    have n3 : h1.bn + 1 < h3.bn := by rw [p4]; simp
    have n3b : h.bn + 1 < h3.bn := by omega
    have l3 : TLive h3 t' j := by
      refine TLive.keep p3 (t := t') (n := j) ?_ fun i hi ho => hL.apart i ho hi
      simpa using hL.live'
    have a3 : TApart ta t' := by
      refine (TApart.next (n := j) ?_ hL.apart.symm p2).symm
      simpa using hL.live'
    have k5 := (kk.app hL.new p3).so (b' := h.bn + 1) (Nat.le_succ _) hb [.str name, .int .i64 args, .sl ta (L.map (fun p : Stp × Stp => encStp p.1) ++ [encStp ⟨c1, f1⟩]), .sl t' (L.map fun p => encStp p.2), .bool false]
    have y9 : ¬ h1.bn = h.bn := by omega
    simp -implicitDefEqProofs [t4, e3, e8, n3, n3b, y9]
    refine appQ_tok (t := t') (es := L.map (fun p : Stp × Stp => encStp p.2)) (es2 := [encStp ⟨c2, f2⟩]) (by simpa [hL.len] using l3) (fun e he => by obtain ⟨p, _, rfl⟩ := List.mem_map.1 he; rfl) (by simp [srcA, encStp]) (by simp [hL.len]; omega) fun tb h4 r1 r2 r3 r4 => ?_
    have e4 : h4.bx (h.bn + 1) = some [.str name, .int .i64 args, .sl ta (L.map (fun p : Stp × Stp => encStp p.1) ++ [encStp ⟨c1, f1⟩]), .sl t' (L.map fun p => encStp p.2), .bool false] := by rw [r3.bx _ (by simpa using n3b) (fun h => h)]; simp [encStp]
    rw [encStp] at e4
    have e5 : h4.bx h.bn = some [.str ⟨#[]⟩, .int .i64 0, .sl .full [], .sl .full [], .bool false] := by rw [r3.bx _ (by simp; omega) (fun h => h)]; simp [e0]
    have n4 : h.bn + 1 < h4.bn := by rw [r4]; exact n3b
    simp -implicitDefEqProofs [t4, t6, e4, n4, inc_i64 hlt (show N ≤ _ by omega), -Int.natCast_add]
    have k6 := (k5.app hL.new' r3).so (b' := h.bn + 1) (Nat.le_succ _) hb (clsCells name args ta tb (L ++ [(⟨c1, f1⟩, ⟨c2, f2⟩)]) false)
    have lta : TLive h3 ta (j + 1) := by simpa [hL.len] using p1
    have lta4 : TLive h4 ta (j + 1) := by
      refine TLive.keep r3 (t := ta) (n := j + 1) ?_ fun i hi ho => a3 i hi ho
      simpa using lta
    have ltb4 : TLive h4 tb (j + 1) := by simpa [hL.len] using r1
    have aab : TApart ta tb := by
      refine TApart.next (n := j + 1) ?_ a3 r2
      simpa using lta
    have gg : Got rdPair sj (⟨c1, f1⟩, ⟨c2, f2⟩) u4 := ((g1.bind (g2.bind (Got.pure _ _))) : Got rdStp sj ⟨c1, f1⟩ u2).bind (((g3.bind (g4.bind (Got.pure _ _))) : Got rdStp u2 ⟨c2, f2⟩ u4).bind (Got.pure _ _))
    rw [clsCells, List.map_append, List.map_append] at k6
    exact ih (N - (j + 1)) _ _ (by omega) ⟨j + 1, _, L ++ [(⟨c1, f1⟩, ⟨c2, f2⟩)], ta, tb, rfl, by omega, by simp [t0], by simp [t2], by simp [t4], by simp [t5], by simp, ⟨k6, hL.got.bind (gg.bind (Got.pure _ _)), by simp [hL.len], by simp [clsCells, encStp], by simp [e5], by simpa using n4, by simpa using lta4, by simpa using ltb4, hL.new.next kk.keep p2, hL.new'.next k5.keep r2, aab⟩⟩
  · obtain rfl : j = N := by omega
    have b0 := hL.b0
    simp -implicitDefEqProofs [t0, t5, t6]
    refine callQ_item rdFlag false (fun y => decide (y.n = 1)) (by simp [inI]) hL.to.is (item_flag sj) (by simp) fun v5 s5 _ _ q5 g5 => ?_
    generalize hfl : decide (v5.n = 1) = fl at g5
    have k6 := (hL.to.trans q5).so (b' := h.bn + 1) (Nat.le_succ _) hb (clsCells name args t t' L fl)
    rw [clsCells] at k6
    have hgc : Got rdCls s ⟨name, args, L.map (·.1), L.map (·.2), fl⟩ s5 := g1.bind (g2.bind (g3.bind ((by rw [Int.toNat_natCast]; exact hL.got : Got (Rd.rep rdPair (j : Int).toNat) s3 L sj).bind (g5.bind (Got.pure _ _)))))
    simp -implicitDefEqProofs [t0, t4, hn1, hbx, z1, z3, encItm, hfl, len_encRS, show b < h1.bn by omega]
    have hc0 : ∀ (c0 : clsR s = none), clsRV s = .tup [.agg [.str ⟨#[]⟩, .int .i64 0, .sl .no [], .sl .no [], .bool false], .bool false] := fun c0 => by simp [clsRV, c0, cls0, encCls]
    have hs0 : ∀ (c0 : clsR s = none), clsRS s = none := fun c0 => by simp [clsRS, c0]
    have w1 : b < h1.bn := by omega
    have w2 : h.bn < h1.bn := by omega
    cases s5 with
    | none =>
      have hcn := clsR_none hgc
      have hrv := hc0 hcn
      have hrs := hs0 hcn
      simp -implicitDefEqProofs [encRS, t0, t2, z0, z3, b0, w1, w2, hrv, hrs]
      exact RFin.so (RFin.bad (v := .any1) (k6.keep.trans (HF.set _ rfl)) (by simp)) (Nat.le_refl _) hb _
    | some l =>
      have hcs := clsR_some hgc
      have hwf := Got.all rdCls_all hr.bd hgc
      simp -implicitDefEqProofs [encRS, t4, hn1]
      refine callQ_p (refClsMay_ok _ hwf) (by simp [encCls, Function.comp_def]) ?_
      cases hcm : clsMay ⟨name, args, L.map (·.1), L.map (·.2), fl⟩
      · have hcn : clsR s = none := by rw [hcs, hcm]; rfl
        have hrv := hc0 hcn
        have hrs := hs0 hcn
        simp -implicitDefEqProofs [t0, t2, z0, z3, b0, w1, w2, hrv, hrs]
        exact RFin.so (RFin.bad (v := encW l) (k6.keep.trans (HF.set _ rfl)) (by simp)) (Nat.le_refl _) hb _
      · have hcy : clsR s = some (⟨name, args, L.map (·.1), L.map (·.2), fl⟩, l) := by rw [hcs, hcm]; rfl
        have hrv : clsRV s = .tup [.agg (encCls ⟨name, args, L.map (·.1), L.map (·.2), fl⟩), .bool true] := by simp [clsRV, hcy]
        have hrs : clsRS s = some l := by simp [clsRS, hcy]
        simp -implicitDefEqProofs [t2, t4, hn1, z0, b0, hrv, hrs, w2]
        exact ⟨by simp [encCls, Function.comp_def], (k6.so (Nat.le_refl _) hb _).fin⟩
end Go.Proofs

/- Breakpoints: the document's answer and the program's. -/
namespace Go.Proofs
open Go Go.RowKit Go.Am

def bitN (b i : Nat) : Bool := decide (b / 2 ^ i % 2 = 1)
def Ctlg.inn (x : Ctlg) (c : Int) : Bool := decide (0 ≤ c) && decide (c < (x.classes.length : Int)) && decide (c < 4)
def Ctlg.brkAt (x : Ctlg) (c d i : Int) : Bool := x.inn c && x.inn d && decide (0 ≤ i) && decide (i + 1 < (x.stepsN c.toNat : Int)) && bitN (x.brk c.toNat d.toNat).toNat i.toNat

theorem Ctlg.take16 (x : Ctlg) (hb : x.breaks.length = 16) : List.take 16 (x.breaks.map (AV.int .i64)) = x.breaks.map (AV.int .i64) := List.take_of_length_le (by simp [hb])

/-- The unit of a step, as the document counts: how many breakpoints there are before it. -/
def Ctlg.unitN (x : Ctlg) (c d : Int) (i : Nat) : Nat := ((List.range i).filter fun j : Nat => x.brkAt c d j).length

end Go.Proofs

/- Units: their bounds, the document's and the program's. -/
namespace Go.Proofs
open Go Go.RowKit Go.Am

/-! ### The plain law -/
def loF (p : Nat → Bool) : Nat → Nat
  | 0 => 0
  | i + 1 => if p i then i + 1 else loF p i
def hiF (p : Nat → Bool) : Nat → Nat → Nat
  | 0, i => i
  | k + 1, i => if p i then i else hiF p k (i + 1)

theorem loF_le (p : Nat → Bool) (i : Nat) : loF p i ≤ i := by
  induction i with
  | zero => simp [loF]
  | succ i ih => simp only [loF]; split <;> omega
theorem loF_no (p : Nat → Bool) (i : Nat) : ∀ j, loF p i ≤ j → j < i → p j = false := by
  induction i with
  | zero => intro j _ h; omega
  | succ i ih =>
    intro j h1 h2
    simp only [loF] at h1
    split at h1
    · omega
    · by_cases h : j = i
      · subst h; simp_all
      · exact ih j h1 (by omega)
theorem loF_at (p : Nat → Bool) (i : Nat) : loF p i = 0 ∨ p (loF p i - 1) = true := by
  induction i with
  | zero => simp [loF]
  | succ i ih =>
    simp only [loF]
    split
    · right; simpa
    · exact ih
theorem hiF_ge (p : Nat → Bool) (k i : Nat) : i ≤ hiF p k i ∧ hiF p k i ≤ i + k := by
  induction k generalizing i with
  | zero => simp [hiF]
  | succ k ih =>
    simp only [hiF]
    have := ih (i + 1)
    split <;> omega
theorem hiF_no (p : Nat → Bool) (k i : Nat) : ∀ j, i ≤ j → j < hiF p k i → p j = false := by
  induction k generalizing i with
  | zero => intro j h1 h2; simp only [hiF] at h2; omega
  | succ k ih =>
    intro j h1 h2
    simp only [hiF] at h2
    split at h2
    · omega
    · by_cases h : j = i
      · subst h; simp_all
      · exact ih (i + 1) j (by omega) h2
theorem hiF_at (p : Nat → Bool) (k i : Nat) : hiF p k i = i + k ∨ p (hiF p k i) = true := by
  induction k generalizing i with
  | zero => simp [hiF]
  | succ k ih =>
    simp only [hiF]
    split
    · right; assumption
    · rcases ih (i + 1) with h | h
      · left; omega
      · right; exact h

/-- How many there are below. -/
def cntF (p : Nat → Bool) : Nat → Nat
  | 0 => 0
  | j + 1 => cntF p j + if p j then 1 else 0
theorem cntF_mono (p : Nat → Bool) {a b : Nat} (h : a ≤ b) : cntF p a ≤ cntF p b := by
  induction b with
  | zero => have : a = 0 := by omega
            subst this; exact Nat.le_refl _
  | succ b ih =>
    by_cases hb : a = b + 1
    · subst hb; exact Nat.le_refl _
    · have := ih (by omega)
      simp only [cntF]; omega
theorem cntF_same (p : Nat → Bool) {a b : Nat} (h : a ≤ b) (hn : ∀ j, a ≤ j → j < b → p j = false) : cntF p a = cntF p b := by
  induction b with
  | zero => have : a = 0 := by omega
            subst this; rfl
  | succ b ih =>
    by_cases hb : a = b + 1
    · subst hb; rfl
    · have h1 := ih (by omega) fun j h1 h2 => hn j h1 (by omega)
      have h2 := hn b (by omega) (by omega)
      simp [cntF, h1, h2]
theorem cntF_iff (p : Nat → Bool) {n i k : Nat} (hi : i < n) (hk : k < n) : cntF p k = cntF p i ↔ loF p i ≤ k ∧ k ≤ hiF p (n - 1 - i) i := by
  have l1 := loF_le p i
  have l2 := loF_no p i
  have l3 := loF_at p i
  have g1 := hiF_ge p (n - 1 - i) i
  have g2 := hiF_no p (n - 1 - i) i
  have g3 := hiF_at p (n - 1 - i) i
  generalize loF p i = lo at *
  generalize hiF p (n - 1 - i) i = hh at *
  constructor
  · intro he
    constructor
    · apply Nat.le_of_not_lt
      intro hlt
      rcases l3 with h | h
      · omega
      · have a1 := cntF_mono p (show k ≤ lo - 1 by omega)
        have a2 : cntF p (lo - 1 + 1) = cntF p (lo - 1) + 1 := by simp [cntF, h]
        have a3 := cntF_mono p (show lo - 1 + 1 ≤ i by omega)
        omega
    · apply Nat.le_of_not_lt
      intro hlt
      rcases g3 with h | h
      · omega
      · have a1 := cntF_mono p (show i ≤ hh by omega)
        have a2 : cntF p (hh + 1) = cntF p hh + 1 := by simp [cntF, h]
        have a3 := cntF_mono p (show hh + 1 ≤ k by omega)
        omega
  · rintro ⟨h1, h2⟩
    by_cases hki : k ≤ i
    · exact cntF_same p hki fun j q1 q2 => l2 j (by omega) q2
    · exact (cntF_same p (show i ≤ k by omega) fun j q1 q2 => g2 j q1 (by omega)).symm

theorem Ctlg.unitN_cnt (x : Ctlg) (c d : Int) (i : Nat) : x.unitN c d i = cntF (fun j : Nat => x.brkAt c d j) i := by
  induction i with
  | zero => simp [unitN, cntF]
  | succ i ih =>
    unfold unitN at ih ⊢
    rw [List.range_succ, List.filter_append, List.length_append, ih]
    by_cases h : x.brkAt c d i <;> simp [cntF, h]

def Ctlg.lo (x : Ctlg) (c d : Int) (i : Nat) : Nat := loF (fun j : Nat => x.brkAt c d j) i
def Ctlg.hi (x : Ctlg) (c d : Int) (i : Nat) : Nat := hiF (fun j : Nat => x.brkAt c d j) (x.stepsN c.toNat - 1 - i) i
def Ctlg.inb (x : Ctlg) (c d i : Int) : Bool := x.inn c && x.inn d && decide (0 ≤ i) && decide (i < (x.stepsN c.toNat : Int))
def bndV (x : Ctlg) (c d i : Int) : AV := if x.inb c d i then .tup [.int .i64 (x.lo c d i.toNat), .int .i64 (x.hi c d i.toNat), .bool true] else .tup [.int .i64 0, .int .i64 0, .bool false]

theorem pure_bndV (x : Ctlg) (c d i : Int) : PureV (bndV x c d i) := by
  unfold bndV
  split
  · exact .tup (pures_cons (.int _ _) (pures_cons (.int _ _) (pures1 (.bool _))))
  · exact .tup (pures_cons (.int _ _) (pures_cons (.int _ _) (pures1 (.bool _))))

/-! ### The document's -/
/-! ### The program's -/
theorem bit_and {b i : Nat} (hb : b < 9223372036854775808) (hi : i ≤ 64) : IntKind.i64.wrap (((((b : Int).fdiv (2 ^ shAmt IntKind.i64 i) % 2 ^ IntKind.i64.bits).toNat &&& ((1 : Int) % 2 ^ IntKind.i64.bits).toNat : Nat)) : Int) = ((b / 2 ^ i % 2 : Nat) : Int) := by
  have e1 : shAmt IntKind.i64 (i : Int) = i := by simp only [shAmt, Int.toNat_natCast]; exact Nat.min_eq_left hi
  have e2 : (b : Int).fdiv (2 ^ i) = ((b / 2 ^ i : Nat) : Int) := by
    rw [Int.fdiv_eq_ediv_of_nonneg _ (by exact Int.pow_nonneg (by omega))]
    push_cast
    rfl
  have e3 : IntKind.i64.bits = 64 := rfl
  have hq : b / 2 ^ i ≤ b := Nat.div_le_self _ _
  rw [e1, e2, e3]
  generalize b / 2 ^ i = q at hq ⊢
  have e5 : ((q : Int) % 2 ^ 64).toNat = q := by omega
  have e6 : ((1 : Int) % 2 ^ 64).toNat = 1 := by decide
  rw [e5, e6, Nat.and_one_is_mod, wrap_i64] <;> omega

structure Ctlg.good (x : Ctlg) : Prop where
  wf : x.wf
  n4 : x.classes.length ≤ 4
  s4 : ∀ c (h : c < x.classes.length), x.classes[c].steps.length ≤ 4
  nn : ∀ c d, 0 ≤ x.brk c d

end Go.Proofs

/- Units: their bounds, the program's; whether a place is open. -/
namespace Go.Proofs
open Go Go.RowKit Go.Am

/-- Is the place before a step open? -/
def Ctlg.openAt (x : Ctlg) (c d i : Int) : Bool := x.inb c d (i - 1) && decide (i - 1 < (x.hi c d (i - 1).toNat : Int))
end Go.Proofs
