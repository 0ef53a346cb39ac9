/- What the functions that the statement reaches do: their contracts; and what follows of it. -/
import Derived.Test.YtdcpendppalkgaaSRecsCut8
import Derived.Test.YtdcpendppalkgaaSRecsCut9
/- Frames: are they the same? The document's example; great records. -/
namespace Go.Proofs
open Go Go.RowKit Go.Am

theorem pure_frms (f : Frm) : PureV (.sl .no [encFrm f]) := .sl (fun i h => by cases h) fun e he v hv => by
  simp only [List.mem_cons, List.not_mem_nil, or_false] at he
  subst he
  exact pure_encFrm f v hv
theorem frm_eq (f g : Frm) : f = g ↔ f.kind = g.kind ∧ f.words = g.words := by
  cases f; cases g; simp

set_option maxHeartbeats 1000000 in
theorem frmSame_ok (f g : Frm) (hf : f.words.length ≤ 9223372036854775807) (hg : g.words.length ≤ 9223372036854775807) : PCall Try.prog 27 [.sl .no [encFrm f], .sl .no [encFrm g]] (.bool (decide (f = g))) := by
  refine PCall.run hb27 ok27 (by simp) (pures2 (pure_frms f) (pure_frms g)) (.bool _) ?_
  simp -implicitDefEqProofs []
  refine run_loop (fun n s h => ∃ j : Nat, n = 1 - j ∧ j ≤ 1 ∧ s 0 = .sl .no [encFrm f] ∧ s 1 = .sl .no [encFrm g] ∧ s 5 = .int .i64 j ∧ (j = 1 → f = g)) ?_ 1 ?_
  rotate_left
  · exact ⟨0, by simp⟩
  rintro n s h ⟨j, hn, hj, s0, s1, s5, he⟩ ih
  by_cases hlt : j < 1
  rotate_left
  · obtain rfl : j = 1 := by omega
    have := he rfl
    simp -implicitDefEqProofs [s0, s5, this]
  obtain rfl : j = 0 := by omega
  simp -implicitDefEqProofs [s0, s5]
  refine run_dregL c27_d6 rfl ?_
  by_cases hk : f.kind = g.kind
  rotate_left
  · have : f ≠ g := fun e => hk (by rw [e])
    simp -implicitDefEqProofs [s0, s1, s5, encFrm, hk, this]
  by_cases hl : f.words.length = g.words.length
  rotate_left
  · have : f ≠ g := fun e => hl (by rw [e])
    simp -implicitDefEqProofs [s0, s1, s5, encFrm, hk, hl, this]
  simp -implicitDefEqProofs [s0, s1, s5, encFrm, hk, hl]
  refine run_loop (fun n s h => ∃ i : Nat, n = g.words.length - i ∧ i ≤ g.words.length ∧ s 0 = .sl .no [encFrm f] ∧ s 1 = .sl .no [encFrm g] ∧ s 5 = .int .i64 0 ∧ s 6 = .int .i64 i ∧ f.words.take i = g.words.take i) ?_ g.words.length ?_
  rotate_left
  · exact ⟨0, by simp [s0, s1, s5, encFrm]⟩
  clear s0 s1 s5 he
  rintro n s h ⟨i, hn, hi, s0, s1, s5, s6, he⟩ ih2
  by_cases hlt2 : i < g.words.length
  · have hlt' : i < f.words.length := by omega
    have i1 := idxOf_nat (k := .i64) hlt2
    have i2 := idxOf_nat (k := .i64) hlt'
    have hs : f.words.take (i + 1) = g.words.take (i + 1) ↔ f.words[i] = g.words[i] := by
      rw [List.take_succ_eq_append_getElem (l := g.words) hlt2, List.take_succ_eq_append_getElem (l := f.words) hlt', he]
      simp only [List.append_cancel_left_eq, List.cons.injEq, and_true]
    simp -implicitDefEqProofs [s0, s5, s6, encFrm, hl, hlt2]
    refine run_dregL c27_d10 rfl ?_
    by_cases h1 : f.words[i] = g.words[i]
    · simp -implicitDefEqProofs [s0, s1, s5, s6, encFrm, hl, hlt2, w64, h1, inc_i64 hlt2 (by omega), -Int.natCast_add]
      exact ih2 (g.words.length - (i + 1)) _ _ (by omega) ⟨i + 1, rfl, by omega, by simp [s0, encFrm], by simp [s1, encFrm], by simp [s5], by simp, hs.2 h1⟩
    · have hne : f ≠ g := fun e => by subst e; exact h1 rfl
      simp -implicitDefEqProofs [s0, s1, s5, s6, encFrm, hl, hlt2, w64, h1, hne]
  · obtain rfl : i = g.words.length := by omega
    rw [List.take_length, List.take_of_length_le (by omega)] at he
    have hE : f = g := (frm_eq f g).2 ⟨hk, he⟩
    simp -implicitDefEqProofs [s0, s5, s6, encFrm, hl]
    exact ih 0 _ _ (by omega) ⟨1, rfl, by omega, by simp [s0, encFrm], by simp [s1, encFrm], by simp []; decide, fun _ => hE⟩

def recA : Recd := ⟨3, 3, 0, [], 7, ⟨0, 0, 0, false, [], []⟩, [0, 0, 0, 0], []⟩
theorem recA_wf : recA.wf := by simp [recA, Recd.wf, inI, Nod.wf, maxLen]
theorem alive20_ok : PCall Try.prog 21 [] (.bool true) := by
  have h := recPut_ok recA recA_wf (by simp [recA]) (by simp [recA]) (by simp [recA]) (by simp [recA])
  have e : putV recA = .tup [.agg [.int .i64 3, .sl .no [[.int .u64 3], [.int .u64 7]]], .bool true] := rfl
  rw [e] at h
  refine PCall.run hb21 ok21 (by simp) pures_nil (.bool _) ?_
  simp -implicitDefEqProofs []
  refine callQ_p h (by simp [encRecd, recA]) ?_
  simp -implicitDefEqProofs [H.nil]

def greatR (x : Recd) : Bool := decide (20 < x.args.length) || decide (20 < x.changes.length) || decide (20 < x.node.reads.length) || decide (20 < x.node.writes.length)
theorem greatR_ok (x : Recd) (hx : x.wf) : PCall Try.prog 22 [.agg (encRecd x)] (.bool (greatR x)) := by
  have p := pures1 (.agg (pure_encRecd x))
  obtain ⟨r0, r1, r2, r3, ra⟩ := regs_four hx.2.2.2.2.2.2.1.1
  rw [encRecd_cells ra] at p ⊢
  refine PCall.run hb22 ok22 (by simp) p (.bool _) ?_
  by_cases h1 : (20 : Int) < x.args.length
  · simp -implicitDefEqProofs [cellsR, H.nil, greatR, h1, show 20 < x.args.length by omega]
  by_cases h2 : (20 : Int) < x.changes.length
  · simp -implicitDefEqProofs [cellsR, H.nil, greatR, h1, h2, show 20 < x.changes.length by omega]
  by_cases h3 : (20 : Int) < x.node.reads.length
  · simp -implicitDefEqProofs [cellsR, H.nil, greatR, h1, h2, h3, show 20 < x.node.reads.length by omega]
  by_cases h4 : (20 : Int) < x.node.writes.length
  · simp -implicitDefEqProofs [cellsR, H.nil, greatR, h1, h2, h3, h4, show 20 < x.node.writes.length by omega]
  · simp -implicitDefEqProofs [cellsR, H.nil, greatR, h1, h2, h3, h4, show ¬ 20 < x.args.length by omega, show ¬ 20 < x.changes.length by omega, show ¬ 20 < x.node.reads.length by omega, show ¬ 20 < x.node.writes.length by omega]
theorem not_greatR {x : Recd} (h : greatR x = false) : x.args.length ≤ 20 ∧ x.changes.length ≤ 20 ∧ x.node.reads.length ≤ 20 ∧ x.node.writes.length ≤ 20 := by
  simp only [greatR, Bool.or_eq_false_iff, decide_eq_false_iff_not] at h
  omega
end Go.Proofs

/- The record of a frame: plain laws; the program's answer. -/
namespace Go.Proofs
open Go Go.RowKit Go.Am

theorem rdArgs_ok : RdOK rdArgs := (rdCount_ok _).bind fun _ => (rdCount_ok _).rep _
theorem rdSpn_ok : RdOK rdSpn := (rdCount_ok _).bind fun _ => (rdCount_ok _).bind fun _ => RdOK.pure _
theorem rdSpns_ok : RdOK rdSpns := (rdCount_ok _).bind fun _ => rdSpn_ok.rep _
theorem rdChg_ok : RdOK rdChg := (rdCount_ok _).bind fun _ => rdFlag_ok.bind fun _ => rdSigned_ok.bind fun _ => RdOK.pure _
theorem rdChgs_ok : RdOK rdChgs := (rdCount_ok _).bind fun _ => rdChg_ok.rep _
theorem rdNod_ok : RdOK rdNod := (rdCount_ok _).bind fun _ => (rdCount_ok _).bind fun _ => (rdCount_ok _).bind fun _ => rdFlag_ok.bind fun _ => rdSpns_ok.bind fun _ => rdSpns_ok.bind fun _ => RdOK.pure _

/-- A record of few parts. -/
def Recd.few (x : Recd) : Prop := x.wf ∧ x.args.length ≤ 8 ∧ x.changes.length ≤ 8 ∧ x.node.reads.length ≤ 8 ∧ x.node.writes.length ≤ 8
theorem rdArgs_all : RdAll rdArgs fun l => l.length ≤ 3 ∧ ∀ a ∈ l, inI a := (rdCount_all 3).bind (rdCount_ok _) fun n hn => fun l a l' hw h => by
  obtain ⟨h1, h2⟩ := (rdCount_all 99).rep (rdCount_ok _) n.toNat l a l' hw h
  exact ⟨by omega, fun a ha => by have := h2 a ha; simp only [inI]; omega⟩
theorem rdSpn_all : RdAll rdSpn Spn.wf := (rdCount_all 999).bind (rdCount_ok _) fun a ha => (rdCount_all 999).bind (rdCount_ok _) fun b hb => RdAll.pure ⟨by simp only [inI]; omega, by simp only [inI]; omega⟩
theorem rdSpns_all : RdAll rdSpns fun l => l.length ≤ 8 ∧ ∀ a ∈ l, a.wf := (rdCount_all 8).bind (rdCount_ok _) fun n hn => fun l a l' hw h => by
  obtain ⟨h1, h2⟩ := rdSpn_all.rep rdSpn_ok n.toNat l a l' hw h
  exact ⟨by omega, h2⟩
theorem rdChg_all : RdAll rdChg Chg.wf := (rdCount_all 999).bind (rdCount_ok _) fun a ha => rdFlag_all.bind rdFlag_ok fun g _ => rdSigned_all.bind rdSigned_ok fun v hv => RdAll.pure ⟨by simp only [inI]; omega, hv⟩
theorem rdChgs_all : RdAll rdChgs fun l => l.length ≤ 8 ∧ ∀ a ∈ l, a.wf := (rdCount_all 8).bind (rdCount_ok _) fun n hn => fun l a l' hw h => by
  obtain ⟨h1, h2⟩ := rdChg_all.rep rdChg_ok n.toNat l a l' hw h
  exact ⟨by omega, h2⟩
theorem rdNod_all : RdAll rdNod fun n => n.wf ∧ n.reads.length ≤ 8 ∧ n.writes.length ≤ 8 :=
  (rdCount_all 12).bind (rdCount_ok _) fun a ha => (rdCount_all 4).bind (rdCount_ok _) fun b hb => (rdCount_all 4).bind (rdCount_ok _) fun c hc => rdFlag_all.bind rdFlag_ok fun d _ => rdSpns_all.bind rdSpns_ok fun r hr => rdSpns_all.bind rdSpns_ok fun w hw =>
    RdAll.pure ⟨⟨by simp only [inI]; omega, by simp only [inI]; omega, by simp only [inI]; omega, ⟨by simp only [maxLen]; omega, hr.2⟩, by simp only [maxLen]; omega, hw.2⟩, hr.1, hw.1⟩
theorem nod0_wf : nod0.wf := by simp [nod0, Nod.wf, inI, maxLen]
theorem rdRec_all {k : Int} (hk : inI k) : RdAll (rdRec k) Recd.few := by
  unfold rdRec
  split
  · exact (rdCount_all 4).bind (rdCount_ok _) fun c hc => rdArgs_all.bind rdArgs_ok fun a ha => RdAll.pure ⟨⟨by simp [inI], by simp [inI], by simp only [inI]; omega, ⟨by simp only [maxLen]; omega, ha.2⟩, by simp [inI], nod0_wf, by simp [inI], by simp [maxLen]⟩, by simp only; omega, by simp, by simp [nod0], by simp [nod0]⟩
  · split
    · exact rdNod_all.bind rdNod_ok fun n hn => (rdSigned_all.rep rdSigned_ok 4).bind (rdSigned_ok.rep _) fun r hr => rdChgs_all.bind rdChgs_ok fun c hc => RdAll.pure ⟨⟨by simp [inI], by simp [inI], by simp [inI], by simp [maxLen], by simp [inI], hn.1, hr, by simp only [maxLen]; omega, hc.2⟩, by simp, hc.1, hn.2.1, hn.2.2⟩
    · split
      · exact (rdCount_all 12).bind (rdCount_ok _) fun c hc => (rdCount_all 15).bind (rdCount_ok _) fun w hw => RdAll.pure ⟨⟨by simp [inI], by simp only [inI]; omega, by simp [inI], by simp [maxLen], by simp only [inI]; omega, nod0_wf, by simp [inI], by simp [maxLen]⟩, by simp, by simp, by simp [nod0], by simp [nod0]⟩
      · exact RdAll.pure ⟨⟨hk, by simp [inI], by simp [inI], by simp [maxLen], by simp [inI], nod0_wf, by simp [inI], by simp [maxLen]⟩, by simp, by simp, by simp [nod0], by simp [nod0]⟩

/-- The record of a frame, if there is one. -/
def recGet (f : Frm) : Option Recd := (rdRec f.kind f.words).bind fun p => if p.2 = [] ∧ recMay p.1 = true then some p.1 else none
def getV (o : Option Recd) : AV := match o with
  | some x => .tup [.agg (encRecd x), .bool true]
  | none => .tup [.agg (encRecd rec0), .bool false]
theorem pure_getV (o : Option Recd) : PureV (getV o) := by
  unfold getV
  split <;> exact .tup (pures_cons (.agg (pure_encRecd _)) (pures1 (.bool _)))
theorem recGet_bad {f : Frm} {x : Recd} {s' : RS} (h : Got (rdRec f.kind) (some f.words) x s') (he : endS s' = false) : recGet f = none := by
  unfold Got at h
  unfold recGet
  simp only [Option.bind_some] at h
  cases hp : rdRec f.kind f.words with
  | none => rfl
  | some p =>
    rw [hp] at h
    obtain ⟨h1, h2⟩ := h
    subst h2
    have : p.2 ≠ [] := by intro e; rw [e] at he; cases he
    simp [this]
theorem recGet_end {f : Frm} {x : Recd} {s' : RS} (h : Got (rdRec f.kind) (some f.words) x s') (he : endS s' = true) : recGet f = if recMay x = true then some x else none := by
  unfold Got at h
  unfold recGet
  simp only [Option.bind_some] at h
  cases hp : rdRec f.kind f.words with
  | none => rw [hp] at h; subst h; cases he
  | some p =>
    rw [hp] at h
    obtain ⟨h1, h2⟩ := h
    subst h2
    have : p.2 = [] := by cases hq : p.2 with | nil => rfl | cons a b => rw [hq] at he; cases he
    simp [this, h1]

theorem got_few {f : Frm} (hf : f.wf) (hl : f.words.length ≤ 1000) {x : Recd} {s' : RS} (h : Got (rdRec f.kind) (some f.words) x s') (he : endS s' = true) : x.few := by
  cases s' with
  | none => cases he
  | some l => exact Got.all (rdRec_all hf.1) (fun l hl' => by cases hl'; exact ⟨by omega, hf.2.2⟩) h

set_option maxHeartbeats 4000000 in
theorem recGet1_ok (f : Frm) (hf : f.wf) (hl : f.words.length ≤ 1000) (k1 : f.kind = 1) : PCall Try.prog 28 [.agg (encFrm f)] (getV (recGet f)) := by
  refine PCall.run hb28 ok28 (by simp) (pures1 (.agg (pure_encFrm f))) (pure_getV _) ?_
  have hrd : rdRec f.kind = rdSubR := by simp [rdRec, k1]
  simp -implicitDefEqProofs [encFrm, H.nil]
  refine callQ_s (newReader_ok f.words _) (by simp) ?_
  simp -implicitDefEqProofs [k1]
  generalize hH : (H.set _ 4 _ : H) = h0
  have a3 : h0.bx 3 = some [.ptr 2 0] := by rw [← hH]; simp
  have a4 : h0.bx 4 = some [.int .i64 1, .int .i64 0, .int .i64 0, .sl .full [], .int .i64 0, .int .i64 0, .int .i64 0, .int .i64 0, .bool false, .sl .full [], .sl .full [], .int .i64 0, .int .i64 0, .int .i64 0, .int .i64 0, .sl .full []] := by rw [← hH]; simp
  have a1 : h0.bx 1 = some [.int .i64 0, .int .i64 0, .int .i64 0, .sl .full [], .int .i64 0, .int .i64 0, .int .i64 0, .int .i64 0, .bool false, .sl .full [], .sl .full [], .int .i64 0, .int .i64 0, .int .i64 0, .int .i64 0, .sl .full []] := by rw [← hH]; simp
  have a5 : h0.bn = 5 := by rw [← hH]; simp
  have ri : RIs h0 2 (some f.words) := ⟨by rw [a5]; omega, by rw [← hH]; simp [encRS], fun l hl' => by cases hl'; exact ⟨by omega, hf.2.2⟩⟩
  clear hH
  simp -implicitDefEqProofs []
  refine callQ_r (count_rd (most := 4) ri (by simp [inI])).q (by simp) fun v s1 q1 g1 => ?_
  simp -implicitDefEqProofs [a3, a4, a5]
  generalize hH : H.set (H.set h0 2 _) 4 _ = h1
  have b3 : h1.bx 3 = some [.ptr 2 0] := by rw [← hH]; simp [a3]
  have b4 : h1.bx 4 = some [.int .i64 1, .int .i64 0, .int .i64 v, .sl .full [], .int .i64 0, .int .i64 0, .int .i64 0, .int .i64 0, .bool false, .sl .full [], .sl .full [], .int .i64 0, .int .i64 0, .int .i64 0, .int .i64 0, .sl .full []] := by rw [← hH]; simp
  have b1 : h1.bx 1 = h0.bx 1 := by rw [← hH]; simp
  have b5 : h1.bn = 5 := by rw [← hH]; simp [a5]
  have r1 : RIs h1 2 s1 := by rw [← hH]; exact q1.is.setO (by omega)
  rw [a1] at b1
  clear hH
  refine callQ_r (read_int r1 3 (by decide) (by decide) _ [] [.ptr 3 0] rfl (by simp) (rdCount 99) (fun h2 s2 q => getArg_rd q.is (Nat.lt_of_lt_of_le (by omega) q.keep.bn) (by rw [q.keep.bx 3 (by omega) (by omega), b3]))) (by simp) fun A sE q2 g2 => ?_
  have g2' : Got rdArgs s1 A sE := g2
  have gE : Got (rdRec f.kind) (some f.words) ⟨1, 0, v, A, 0, nod0, [0, 0, 0, 0], []⟩ sE := by rw [hrd]; exact g1.bind (g2'.bind (Got.pure _ _))
  simp -implicitDefEqProofs [b3, b4, b5]
  generalize hH : H.set (H.set h1 2 _) 4 _ = hE
  have e3 : hE.bx 3 = some [.ptr 2 0] := by rw [← hH]; simp [b3]
  have e4 : hE.bx 4 = some [.int .i64 1, .int .i64 0, .int .i64 v, .sl .no (A.map encN), .int .i64 0, .int .i64 0, .int .i64 0, .int .i64 0, .bool false, .sl .full [], .sl .full [], .int .i64 0, .int .i64 0, .int .i64 0, .int .i64 0, .sl .full []] := by rw [← hH]; simp
  have e1 : hE.bx 1 = h1.bx 1 := by rw [← hH]; simp
  have e5 : hE.bn = 5 := by rw [← hH]; simp [b5]
  have rE : RIs hE 2 sE := by rw [← hH]; exact q2.is.setO (by omega)
  rw [b1] at e1
  clear hH
  have n1 : 1 < hE.bn := by omega
  have n3 : 3 < hE.bn := by omega
  have n4 : 4 < hE.bn := by omega
  refine callQ_s (rEnd_ok rE) (by simp) ?_
  cases he : endS sE
  · rw [recGet_bad gE he]
    simp -implicitDefEqProofs [e1, n1, getV, encRecd, rec0, nod0]
  have hw := got_few hf hl gE he
  rw [recGet_end gE he]
  simp -implicitDefEqProofs [e4, n4]
  refine callQ_p (recMay_ok _ hw.1 (by have := hw.2.1; omega) (by have := hw.2.2.1; omega) (by have := hw.2.2.2.1; omega) (by have := hw.2.2.2.2; omega)) (by simp [encRecd, nod0]) ?_
  cases hm : recMay ⟨1, 0, v, A, 0, nod0, [0, 0, 0, 0], []⟩
  · simp -implicitDefEqProofs [e1, n1, getV, encRecd, rec0, nod0]
  · simp -implicitDefEqProofs [e1, e4, n1, n4, getV, encRecd, nod0]

set_option maxHeartbeats 4000000 in
theorem recGet3_ok (f : Frm) (hf : f.wf) (hl : f.words.length ≤ 1000) (k3 : f.kind = 3) : PCall Try.prog 28 [.agg (encFrm f)] (getV (recGet f)) := by
  refine PCall.run hb28 ok28 (by simp) (pures1 (.agg (pure_encFrm f))) (pure_getV _) ?_
  have hrd : rdRec f.kind = rdAbR := by simp [rdRec, k3]
  simp -implicitDefEqProofs [encFrm, H.nil]
  refine callQ_s (newReader_ok f.words _) (by simp) ?_
  simp -implicitDefEqProofs [k3]
  generalize hH : (H.set _ 4 _ : H) = h0
  have a3 : h0.bx 3 = some [.ptr 2 0] := by rw [← hH]; simp
  have a4 : h0.bx 4 = some [.int .i64 3, .int .i64 0, .int .i64 0, .sl .full [], .int .i64 0, .int .i64 0, .int .i64 0, .int .i64 0, .bool false, .sl .full [], .sl .full [], .int .i64 0, .int .i64 0, .int .i64 0, .int .i64 0, .sl .full []] := by rw [← hH]; simp
  have a1 : h0.bx 1 = some [.int .i64 0, .int .i64 0, .int .i64 0, .sl .full [], .int .i64 0, .int .i64 0, .int .i64 0, .int .i64 0, .bool false, .sl .full [], .sl .full [], .int .i64 0, .int .i64 0, .int .i64 0, .int .i64 0, .sl .full []] := by rw [← hH]; simp
  have a5 : h0.bn = 5 := by rw [← hH]; simp
  have ri : RIs h0 2 (some f.words) := ⟨by rw [a5]; omega, by rw [← hH]; simp [encRS], fun l hl' => by cases hl'; exact ⟨by omega, hf.2.2⟩⟩
  clear hH
  simp -implicitDefEqProofs []
  refine callQ_r (count_rd (most := 12) ri (by simp [inI])).q (by simp) fun v s1 q1 g1 => ?_
  simp -implicitDefEqProofs [a3, a4, a5]
  generalize hH : H.set (H.set h0 2 _) 4 _ = h1
  have b3 : h1.bx 3 = some [.ptr 2 0] := by rw [← hH]; simp [a3]
  have b4 : h1.bx 4 = some [.int .i64 3, .int .i64 v, .int .i64 0, .sl .full [], .int .i64 0, .int .i64 0, .int .i64 0, .int .i64 0, .bool false, .sl .full [], .sl .full [], .int .i64 0, .int .i64 0, .int .i64 0, .int .i64 0, .sl .full []] := by rw [← hH]; simp
  have b1 : h1.bx 1 = h0.bx 1 := by rw [← hH]; simp
  have b5 : h1.bn = 5 := by rw [← hH]; simp [a5]
  have r1 : RIs h1 2 s1 := by rw [← hH]; exact q1.is.setO (by omega)
  rw [a1] at b1
  clear hH
  simp -implicitDefEqProofs []
  refine callQ_r (count_rd (most := 15) r1 (by simp [inI])).q (by simp) fun w sE q2 g2 => ?_
  have gE : Got (rdRec f.kind) (some f.words) ⟨3, v, 0, [], w, nod0, [0, 0, 0, 0], []⟩ sE := by rw [hrd]; exact g1.bind (g2.bind (Got.pure _ _))
  simp -implicitDefEqProofs [b3, b4, b5]
  generalize hH : H.set (H.set h1 2 _) 4 _ = hE
  have e3 : hE.bx 3 = some [.ptr 2 0] := by rw [← hH]; simp [b3]
  have e4 : hE.bx 4 = some [.int .i64 3, .int .i64 v, .int .i64 0, .sl .full [], .int .i64 w, .int .i64 0, .int .i64 0, .int .i64 0, .bool false, .sl .full [], .sl .full [], .int .i64 0, .int .i64 0, .int .i64 0, .int .i64 0, .sl .full []] := by rw [← hH]; simp
  have e1 : hE.bx 1 = h1.bx 1 := by rw [← hH]; simp
  have e5 : hE.bn = 5 := by rw [← hH]; simp [b5]
  have rE : RIs hE 2 sE := by rw [← hH]; exact q2.is.setO (by omega)
  rw [b1] at e1
  clear hH
  have n1 : 1 < hE.bn := by omega
  have n3 : 3 < hE.bn := by omega
  have n4 : 4 < hE.bn := by omega
  refine callQ_s (rEnd_ok rE) (by simp) ?_
  cases he : endS sE
  · rw [recGet_bad gE he]
    simp -implicitDefEqProofs [e1, n1, getV, encRecd, rec0, nod0]
  have hw := got_few hf hl gE he
  rw [recGet_end gE he]
  simp -implicitDefEqProofs [e4, n4]
  refine callQ_p (recMay_ok _ hw.1 (by have := hw.2.1; omega) (by have := hw.2.2.1; omega) (by have := hw.2.2.2.1; omega) (by have := hw.2.2.2.2; omega)) (by simp [encRecd, nod0]) ?_
  cases hm : recMay ⟨3, v, 0, [], w, nod0, [0, 0, 0, 0], []⟩
  · simp -implicitDefEqProofs [e1, n1, getV, encRecd, rec0, nod0]
  · simp -implicitDefEqProofs [e1, e4, n1, n4, getV, encRecd, nod0]

set_option maxHeartbeats 4000000 in
theorem recGet2_ok (f : Frm) (hf : f.wf) (hl : f.words.length ≤ 1000) (k2 : f.kind = 2) : PCall Try.prog 28 [.agg (encFrm f)] (getV (recGet f)) := by
  refine PCall.run hb28 ok28 (by simp) (pures1 (.agg (pure_encFrm f))) (pure_getV _) ?_
  have hrd : rdRec f.kind = rdStepR := by simp [rdRec, k2]
  simp -implicitDefEqProofs [encFrm, H.nil]
  refine callQ_s (newReader_ok f.words _) (by simp) ?_
  simp -implicitDefEqProofs [k2]
  generalize hH : (H.set _ 4 _ : H) = h0
  have a3 : h0.bx 3 = some [.ptr 2 0] := by rw [← hH]; simp
  have a4 : h0.bx 4 = some [.int .i64 2, .int .i64 0, .int .i64 0, .sl .full [], .int .i64 0, .int .i64 0, .int .i64 0, .int .i64 0, .bool false, .sl .full [], .sl .full [], .int .i64 0, .int .i64 0, .int .i64 0, .int .i64 0, .sl .full []] := by rw [← hH]; simp
  have a1 : h0.bx 1 = some [.int .i64 0, .int .i64 0, .int .i64 0, .sl .full [], .int .i64 0, .int .i64 0, .int .i64 0, .int .i64 0, .bool false, .sl .full [], .sl .full [], .int .i64 0, .int .i64 0, .int .i64 0, .int .i64 0, .sl .full []] := by rw [← hH]; simp
  have a5 : h0.bn = 5 := by rw [← hH]; simp
  have ri : RIs h0 2 (some f.words) := ⟨by rw [a5]; omega, by rw [← hH]; simp [encRS], fun l hl' => by cases hl'; exact ⟨by omega, hf.2.2⟩⟩
  clear hH
  simp -implicitDefEqProofs []
  refine callQ_c (getStep_rd ri (d := 4) (by omega) (by decide) a4) (by simp) fun r hE ⟨n, r0, r1, r2, r3, C, sE, hf1, rE, e4, g⟩ => ?_
  have gE : Got (rdRec f.kind) (some f.words) ⟨2, 0, 0, [], 0, n, [r0, r1, r2, r3], C⟩ sE := by rw [hrd]; exact g
  have e3 : hE.bx 3 = some [.ptr 2 0] := by rw [hf1.bx 3 (by omega) (by omega), a3]
  have e1 := hf1.bx 1 (by omega) (by omega)
  rw [a1] at e1
  have hbn := hf1.bn
  have n1 : 1 < hE.bn := by omega
  have n3 : 3 < hE.bn := by omega
  have n4 : 4 < hE.bn := by omega
  unfold cellsE at e4
  simp -implicitDefEqProofs [e3, n3]
  refine callQ_s (rEnd_ok rE) (by simp) ?_
  cases he : endS sE
  · rw [recGet_bad gE he]
    simp -implicitDefEqProofs [e1, n1, getV, encRecd, rec0, nod0]
  have hw := got_few hf hl gE he
  rw [recGet_end gE he]
  simp -implicitDefEqProofs [e4, n4]
  refine callQ_p (recMay_ok _ hw.1 (by have := hw.2.1; omega) (by have := hw.2.2.1; omega) (by have := hw.2.2.2.1; omega) (by have := hw.2.2.2.2; omega)) (by simp [encRecd]) ?_
  cases hm : recMay ⟨2, 0, 0, [], 0, n, [r0, r1, r2, r3], C⟩
  · simp -implicitDefEqProofs [e1, n1, getV, encRecd, rec0, nod0]
  · simp -implicitDefEqProofs [e1, e4, n1, n4, getV, encRecd]

set_option maxHeartbeats 4000000 in
theorem recGet0_ok (f : Frm) (hf : f.wf) (hl : f.words.length ≤ 1000) (k1 : ¬ f.kind = 1) (k2 : ¬ f.kind = 2) (k3 : ¬ f.kind = 3) : PCall Try.prog 28 [.agg (encFrm f)] (getV (recGet f)) := by
  refine PCall.run hb28 ok28 (by simp) (pures1 (.agg (pure_encFrm f))) (pure_getV _) ?_
  have hrd : rdRec f.kind = Rd.pure ⟨f.kind, 0, 0, [], 0, nod0, [0, 0, 0, 0], []⟩ := by simp [rdRec, k1, k2, k3]
  simp -implicitDefEqProofs [encFrm, H.nil]
  refine callQ_s (newReader_ok f.words _) (by simp) ?_
  simp -implicitDefEqProofs [k1, k2, k3]
  generalize hH : (H.set _ 4 _ : H) = h0
  have a3 : h0.bx 3 = some [.ptr 2 0] := by rw [← hH]; simp
  have a4 : h0.bx 4 = some [.int .i64 f.kind, .int .i64 0, .int .i64 0, .sl .full [], .int .i64 0, .int .i64 0, .int .i64 0, .int .i64 0, .bool false, .sl .full [], .sl .full [], .int .i64 0, .int .i64 0, .int .i64 0, .int .i64 0, .sl .full []] := by rw [← hH]; simp
  have a1 : h0.bx 1 = some [.int .i64 0, .int .i64 0, .int .i64 0, .sl .full [], .int .i64 0, .int .i64 0, .int .i64 0, .int .i64 0, .bool false, .sl .full [], .sl .full [], .int .i64 0, .int .i64 0, .int .i64 0, .int .i64 0, .sl .full []] := by rw [← hH]; simp
  have a5 : h0.bn = 5 := by rw [← hH]; simp
  have ri : RIs h0 2 (some f.words) := ⟨by rw [a5]; omega, by rw [← hH]; simp [encRS], fun l hl' => by cases hl'; exact ⟨by omega, hf.2.2⟩⟩
  clear hH
  obtain ⟨sE, hsE⟩ : ∃ sE : RS, sE = some f.words := ⟨_, rfl⟩
  have gE : Got (rdRec f.kind) (some f.words) ⟨f.kind, 0, 0, [], 0, nod0, [0, 0, 0, 0], []⟩ sE := by rw [hsE, hrd]; exact Got.pure _ _
  have rE : RIs h0 2 sE := by rw [hsE]; exact ri
  have e1 := a1
  have e3 := a3
  have e4 := a4
  have n1 : 1 < h0.bn := by omega
  have n3 : 3 < h0.bn := by omega
  have n4 : 4 < h0.bn := by omega
  simp -implicitDefEqProofs []
  refine callQ_s (rEnd_ok rE) (by simp) ?_
  cases he : endS sE
  · rw [recGet_bad gE he]
    simp -implicitDefEqProofs [e1, n1, getV, encRecd, rec0, nod0]
  have hw := got_few hf hl gE he
  rw [recGet_end gE he]
  simp -implicitDefEqProofs [e4, n4]
  refine callQ_p (recMay_ok _ hw.1 (by have := hw.2.1; omega) (by have := hw.2.2.1; omega) (by have := hw.2.2.2.1; omega) (by have := hw.2.2.2.2; omega)) (by simp [encRecd, nod0]) ?_
  cases hm : recMay ⟨f.kind, 0, 0, [], 0, nod0, [0, 0, 0, 0], []⟩
  · simp -implicitDefEqProofs [e1, n1, getV, encRecd, rec0, nod0]
  · simp -implicitDefEqProofs [e1, e4, n1, n4, getV, encRecd, nod0]

theorem recGet_ok (f : Frm) (hf : f.wf) (hl : f.words.length ≤ 1000) : PCall Try.prog 28 [.agg (encFrm f)] (getV (recGet f)) := by
  by_cases k1 : f.kind = 1
  · exact recGet1_ok f hf hl k1
  by_cases k2 : f.kind = 2
  · exact recGet2_ok f hf hl k2
  by_cases k3 : f.kind = 3
  · exact recGet3_ok f hf hl k3
  · exact recGet0_ok f hf hl k1 k2 k3
end Go.Proofs

/- Which records may be: the document's answer. -/
namespace Go.Proofs
open Go Go.RowKit Go.Am

theorem refArgs20_ok (a : List Int) (hl : a.length ≤ 1000000) : PCall Try.prog 66 [encA a] (.bool (argsOK a)) := by
  refine PCall.run hb66 ok66 (by simp) (pures1 (pure_encA a)) (.bool _) ?_
  simp -implicitDefEqProofs []
  refine callQ_p (refArgs_ok a hl) (by simp [wk_encA]) ?_
  simp -implicitDefEqProofs []

def chgT (f : Nat → Bool) (l : List Chg) : Bool := l.all chgOK && decide (l.map (·.key) = keysOf f 1000)
theorem chgT_key {f : Nat → Bool} {l : List Chg} {k : Nat} (hk : k < 1000) (hf : f k = true) (hs : (l[(keysOf f k).length]?).map (·.key) ≠ some (k : Int)) : chgT f l = false := by
  rw [chgT, Bool.and_eq_false_iff]
  right
  rw [decide_eq_false_iff_not]
  intro e
  apply hs
  rw [← (keysOf_at f hk hf).2, ← e, List.getElem?_map]
theorem chgT_bad {f : Nat → Bool} {l : List Chg} {j : Nat} (hj : j < l.length) (h : chgOK l[j] = false) : chgT f l = false := by
  rw [chgT, Bool.and_eq_false_iff]
  left
  rw [List.all_eq_false]
  exact ⟨_, List.getElem_mem hj, by rw [h]; simp⟩

set_option maxHeartbeats 4000000 in
theorem refMay_loop (x : Recd) (f : Nat → Bool) (h8 : x.changes.length ≤ 8) (r0 r1 r2 r3 : Int) (s2 : Slots) (h2 : H) (e1 : s2 1 = .ptr 0 0) (e5 : s2 5 = setP f) (e6 : s2 6 = .int .i64 0) (e7 : s2 7 = .int .i64 0) (eb : h2.bx 0 = some (cellsR x r0 r1 r2 r3)) (en : 0 < h2.bn) :
    Run Try.prog false [It.c c25_l21.loop, It.blk 0, It.c ((IR.reg c25_r22).seq IR.ret)] (retQ [ResA.t 2] fun r' _ => Am.wk r' = AV.bool (chgT f x.changes)) s2 h2 := by
  refine run_loop (fun n s h => ∃ k : Nat, n = 1000 - k ∧ k ≤ 1000 ∧ s 1 = .ptr 0 0 ∧ s 5 = setP f ∧ s 6 = .int .i64 (keysOf f k).length ∧ s 7 = .int .i64 k ∧ h.bx 0 = some (cellsR x r0 r1 r2 r3) ∧ 0 < h.bn ∧ (keysOf f k).length ≤ x.changes.length ∧ (x.changes.take (keysOf f k).length).map (·.key) = keysOf f k ∧ (x.changes.take (keysOf f k).length).all chgOK = true) ?_ 1000 ?_
  rotate_left
  · exact ⟨0, by simp [keysOf, e1, e5, e6, e7, eb, en]⟩
  rintro n s h ⟨k, hn, hk, s1, s5, s6, s7, hb, hbn, hle, hmap, hall⟩ ih
  by_cases hlt : k < 1000
  · have hki : (k : Int) < 1000 := by omega
    have i1 := idxOf_nat (k := .i64) hlt
    have g1 := setA_at f hlt
    cases hf : f k with
    | false =>
      rw [hf] at g1
      have e : keysOf f (k + 1) = keysOf f k := by rw [keysOf_succ, hf]; simp
      simp -implicitDefEqProofs [s5, s7, hki, setP, g1, show 1 ≤ 1000 - k by omega, inc_i64 hlt (by omega), -Int.natCast_add]
      exact ih (1000 - (k + 1)) _ _ (by omega) ⟨k + 1, rfl, by omega, by simp [s1], by simp [s5, setP], by simp [s6, e], by simp, by simpa using hb, by simpa using hbn, by rw [e]; exact hle, by rw [e]; exact hmap, by rw [e]; exact hall⟩
    | true =>
      rw [hf] at g1
      generalize hat : (keysOf f k).length = at' at *
      have hbx := hb
      unfold cellsR at hbx
      by_cases hge : at' < x.changes.length
      rotate_left
      · have hF : chgT f x.changes = false := chgT_key hlt hf (by rw [hat, List.getElem?_eq_none (by omega)]; simp)
        have hge2 : x.changes.length ≤ at' := by omega
        simp -implicitDefEqProofs [s1, s5, s6, s7, hki, setP, g1, hbx, hbn, hge2, hF, show 1 ≤ 1000 - k by omega]
      have hge2 : ¬ x.changes.length ≤ at' := by omega
      have i2 := idxOf_nat (k := .i64) hge
      by_cases hkey : x.changes[at'].key = k
      rotate_left
      · have hF : chgT f x.changes = false := chgT_key hlt hf (by rw [hat, List.getElem?_eq_getElem hge]; simpa using hkey)
        simp -implicitDefEqProofs [s1, s5, s6, s7, hki, setP, g1, hbx, hbn, hge, hge2, hkey, encChg, hF, show 1 ≤ 1000 - k by omega]
      have hsucc : keysOf f (k + 1) = keysOf f k ++ [(k : Int)] := by rw [keysOf_succ, if_pos hf]
      have hl1 : (keysOf f (k + 1)).length = at' + 1 := by rw [hsucc, List.length_append, hat]; rfl
      have htk : x.changes.take (at' + 1) = x.changes.take at' ++ [x.changes[at']] := by rw [List.take_succ_eq_append_getElem hge]
      have hgood : chgOK x.changes[at'] = true → ∀ (s3 : Slots) (h3 : H), s3 1 = .ptr 0 0 → s3 5 = setP f → s3 6 = .int .i64 (at' + 1 : Nat) → s3 7 = .int .i64 (k + 1 : Nat) → h3.bx 0 = some (cellsR x r0 r1 r2 r3) → 0 < h3.bn → Run Try.prog false [.lp c25_l21, .blk 0, .c (.seq (.reg c25_r22) .ret)] (retQ [.t 2] fun r' _ => Am.wk r' = .bool (chgT f x.changes)) s3 h3 := fun e s3 h3 q1 q5 q6 q7 qb qn =>
        ih (1000 - (k + 1)) _ _ (by omega) ⟨k + 1, rfl, by omega, q1, q5, by rw [hl1]; exact q6, q7, qb, qn, by rw [hl1]; omega, by rw [hl1, hsucc, htk, List.map_append, hmap, List.map_cons, List.map_nil, hkey], by rw [hl1, htk, List.all_append, hall]; simp [e]⟩
      cases hg : x.changes[at'].gone
      · have hc : chgOK x.changes[at'] = true := by simp [chgOK, hg]
        simp -implicitDefEqProofs [s1, s5, s6, s7, hki, setP, g1, hbx, hbn, hge, hge2, hkey, hg, encChg, show 1 ≤ 1000 - k by omega, inc_i64 hlt (by omega), inc_i64 hge (by omega), -Int.natCast_add]
        exact hgood hc _ _ (by simp [s1]) (by simp [s5, setP]) (by simp) (by simp) (by simpa using hb) (by simpa using hbn)
      · by_cases hv : x.changes[at'].value = 0
        · have hc : chgOK x.changes[at'] = true := by simp [chgOK, hg, hv]
          simp -implicitDefEqProofs [s1, s5, s6, s7, hki, setP, g1, hbx, hbn, hge, hge2, hkey, hg, hv, encChg, show 1 ≤ 1000 - k by omega, inc_i64 hlt (by omega), inc_i64 hge (by omega), -Int.natCast_add]
          exact hgood hc _ _ (by simp [s1]) (by simp [s5, setP]) (by simp) (by simp) (by simpa using hb) (by simpa using hbn)
        · have hF : chgT f x.changes = false := chgT_bad hge (by simp [chgOK, hg, hv])
          simp -implicitDefEqProofs [s1, s5, s6, s7, hki, setP, g1, hbx, hbn, hge, hge2, hkey, hg, hv, encChg, hF, show 1 ≤ 1000 - k by omega]
  · obtain rfl : k = 1000 := by omega
    have hbx := hb
    unfold cellsR at hbx
    have hF : chgT f x.changes = decide ((keysOf f 1000).length = x.changes.length) := by
      by_cases h : (keysOf f 1000).length = x.changes.length
      · rw [h, List.take_length] at hmap hall
        simp [chgT, hall, hmap, h]
      · rw [decide_eq_false h, chgT, Bool.and_eq_false_iff]
        right
        rw [decide_eq_false_iff_not]
        intro e
        exact h (by rw [← e, List.length_map])
    rw [hF]
    simp -implicitDefEqProofs [s1, s6, s7, hbx, hbn]

end Go.Proofs
