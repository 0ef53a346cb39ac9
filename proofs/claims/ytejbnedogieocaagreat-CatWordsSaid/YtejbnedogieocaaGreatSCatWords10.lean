/- What the functions that the statement reaches do: their contracts; and what follows of it. -/
import Derived.Test.YtejbnedogieocaaGreatSCatWords9
import Derived.Test.YtejbnedogieocaaGreatSCatWords8
import Derived.Test.YtejbnedogieocaaGreatSCatWords6
import Derived.Test.YtejbnedogieocaaGreatSCatWords7
/- The program's writer of classes. -/
namespace Go.Proofs
open Go Go.RowKit Go.Am

theorem WTo.sl {h h1 : H} {b : Nat} {t t1 : Tok} {ws : List Nat} (a : WTo h b t ws h1 t1) {L : Nat} (hL : h.ln ≤ L) (o : Option LoopA) : WTo h b t ws (h1.setLoop L o) t1 :=
  ⟨⟨a.wb.lt, a.wb.bx, by have := a.wb.live; unfold TLive at this ⊢; split <;> simp_all⟩, a.next, ⟨a.keep.bn, a.keep.bx, a.keep.tn, a.keep.tk, a.keep.ln, fun l hl => by have := a.keep.lp l hl; simp [show ¬ l = L by omega]; exact this, a.keep.mn, a.keep.mp⟩⟩
theorem WTo.nl {h h1 : H} {b : Nat} {t t1 : Tok} {ws : List Nat} (a : WTo h b t ws h1 t1) (q : LoopA) : WTo h b t ws (h1.newLoop q) t1 :=
  ⟨⟨a.wb.lt, a.wb.bx, by have := a.wb.live; unfold TLive at this ⊢; split <;> simp_all⟩, a.next, ⟨a.keep.bn, a.keep.bx, a.keep.tn, a.keep.tk, by have := a.keep.ln; simp; omega, fun l hl => by have := a.keep.lp l hl; have h2 := a.keep.ln; simp [show ¬ l = h1.ln by omega]; exact this, a.keep.mn, a.keep.mp⟩⟩

def pairItems (p : Stp × Stp) : List Item := stpItems p.1 ++ stpItems p.2
theorem pair_len (p : Stp × Stp) (h : p.1.small ∧ p.2.small) : (writeAll (pairItems p)).length ≤ 188 := by
  rw [pairItems, writeAll_app, List.length_append]
  have := stp_len p.1 h.1; have := stp_len p.2 h.2; omega

set_option maxHeartbeats 2000000 in
theorem classPut_ok {h : H} {b : Nat} {t : Tok} {ws : List Nat} (hw : WB h b t ws) (c : Cls) (hc : c.wf) (hm : clsMay c = true) (hl : ws.length ≤ 600000) : WAdd 21 [.ptr b 0, .agg (encCls c)] h b t (ws ++ writeAll (clsItems c)) := by
  refine CallP.run hb21 ok21 (by simp) ?_
  obtain ⟨hwn, hwa, ⟨hsl, hsw⟩, hcl, hcw⟩ := hc
  obtain ⟨c0, c4, hcs, css, csc⟩ := clsMay_small hm
  have hb := hw.lt
  have hw0 := (hw.alloc [.ptr b 0]).alloc (encCls c)
  have zb : ¬ b = h.bn := by omega
  have zb1 : ¬ b = h.bn + 1 := by omega
  simp -implicitDefEqProofs [encCls]
  rw [encCls] at hw0
  refine callW (wtext_ok hw0 c.name (by omega)) (by simp) fun r h1 t1 q1 => ?_
  have tl := textW_len c.name
  have bX : ∀ (h' : H) (t' : Tok) (ws' : List Nat), WTo ((h.alloc [.ptr b 0]).alloc [.str c.name, .int .i64 c.args, .sl .no (c.steps.map encStp), .sl .no (c.comps.map encStp), .bool c.resume]) b t ws' h' t' → h.bn + 1 < h'.bn ∧ h'.bx h.bn = some [.ptr b 0] ∧ h'.bx (h.bn + 1) = some [.str c.name, .int .i64 c.args, .sl .no (c.steps.map encStp), .sl .no (c.comps.map encStp), .bool c.resume] := fun h' t' ws' q =>
    ⟨Nat.lt_of_lt_of_le (by simp) q.keep.bn, by rw [q.keep.bx _ (by simp) (fun e => zb e.symm)]; simp, by rw [q.keep.bx _ (by simp) (fun e => zb1 e.symm)]; simp⟩
  obtain ⟨n1, x1, y1⟩ := bX _ _ _ q1
  have m1 : h.bn < h1.bn := by omega
  simp -implicitDefEqProofs [n1, x1, y1, m1]
  refine callW (count_ok q1.wb c.args hwa.2 (by rw [List.length_append]; omega)) (by simp) fun r h2 t2 q2 => ?_
  have k2 := q1.trans q2
  obtain ⟨n2, x2, y2⟩ := bX _ _ _ k2
  have m2 : h.bn < h2.bn := by omega
  simp -implicitDefEqProofs [n2, x2, y2, m2]
  refine callW (count_ok q2.wb (c.steps.length : Int) (by omega) (by rw [List.length_append, List.length_append]; simp only [List.length_cons, List.length_nil]; omega)) (by simp) fun r h3 t3 q3 => ?_
  have k3 := k2.trans q3
  obtain ⟨n3, x3, y3⟩ := bX _ _ _ k3
  have m3 : h.bn < h3.bn := by omega
  rw [Int.toNat_natCast] at k3
  have hhead : ws ++ textW c.name ++ [c.args.toNat] ++ [c.steps.length] = ws ++ writeAll [iS c.name, iN c.args 3, iN c.steps.length 4] := by simp [writeAll, w_iS, w_iN]
  rw [hhead] at k3
  simp -implicitDefEqProofs [n3, y3]
  refine callQ_s (each_ok c _) (by simp [encCls]) ?_
  simp -implicitDefEqProofs []
  generalize hS : (su _ 20 _ : Slots) = S
  have s2 : S 2 = .ptr h.bn 0 := by rw [← hS]; simp
  have s3 : S 3 = .ptr (h.bn + 1) 0 := by rw [← hS]; simp
  have s20 : S 20 = .fn 67 [] [.ptr h3.bn 0] := by rw [← hS]; simp
  clear hS
  have k4 := k3.al (encCls c)
  generalize hH : h3.alloc (encCls c) = h4 at k4
  have e4 : h4.bx h3.bn = some (encCls c) := by rw [← hH]; simp
  have n4 : h4.bn = h3.bn + 1 := by rw [← hH]; simp
  clear hH
  generalize hh0 : ((h.alloc [.ptr b 0]).alloc [.str c.name, .int .i64 c.args, .sl .no (c.steps.map encStp), .sl .no (c.comps.map encStp), .bool c.resume] : H) = h0 at *
  have hln : h0.ln ≤ h4.ln := k4.keep.ln
  have hbn0 : h0.bn ≤ h3.bn := k3.keep.bn
  let q0 : LoopA := ⟨S, [21, 22], c21_x9, c21_y10, .ready, none⟩
  let Z := c.steps.zip c.comps
  have hZl : Z.length = c.steps.length := by simp [Z, hcs]
  let I : Nat → H → Prop := fun k h' => h4.ln < h'.ln ∧ h'.lp h4.ln = some q0 ∧ h4.bn ≤ h'.bn ∧ h'.bx h3.bn = some (encCls c) ∧ (writeAll ((Z.take k).flatMap pairItems)).length ≤ 188 * k ∧ ∃ t', WTo h0 b t (ws ++ writeAll [iS c.name, iN c.args 3, iN c.steps.length 4] ++ writeAll ((Z.take k).flatMap pairItems)) h' t'
  refine .rngf (Z := fun _ h' => I c.steps.length h' ∨ False) (F := 67) (first := []) (caps := [.ptr h3.bn 0]) rfl (by simpa using s20) (each1Q_ok c hcs hsl I (fun _ => False) (fun k h' ⟨_, _, q1, q2, _⟩ => ⟨by omega, q2⟩) ?_ ?_) ?_ ?_
  · rintro k h' k1 k2' ⟨j1, j2, j3, j4, j5, t', j6⟩ K hK1 _
    obtain ⟨n5, x5, y5⟩ := bX _ _ _ j6
    have m5 : h.bn < h'.bn := by omega
    have hkZ : k < Z.length := by omega
    have he := flat_snoc pairItems hkZ
    have hZk : Z[k] = (c.steps[k], c.comps[k]) := by simp [Z]
    rw [hZk] at he
    have hpl := pair_len (c.steps[k], c.comps[k]) ⟨css _ (List.getElem_mem k1), csc _ (List.getElem_mem k2')⟩
    have zz : ¬ h.bn = h'.bn := by omega
    have zz1 : ¬ h.bn = h'.bn + 1 := by omega
    have bb : b < h0.bn := by rw [← hh0]; simp; omega
    refine callQ_y (q := q0) j1 j2 rfl ?_
    have k5 := ((((j6.al [.sl .full [], .sl .full []]).so (b' := h'.bn) (by omega) bb (encStp c.steps[k])).al [.sl .full [], .sl .full []]).so (b' := h'.bn + 1) (by omega) bb (encStp c.comps[k])).sl hln (some ⟨S, [21, 22], c21_x9, c21_y10, .busy, none⟩)
    rw [encStp, encStp] at k5
    simp -implicitDefEqProofs [slotsP, j1, j2, q0, s2, x5, zz, zz1, encStp, show h.bn < h'.bn + 1 + 1 by omega]
    have hlw : (ws ++ writeAll [iS c.name, iN c.args 3, iN c.steps.length 4] ++ writeAll ((Z.take k).flatMap pairItems)).length ≤ 700000 := by
      rw [← hhead, List.length_append, List.length_append, List.length_append, List.length_append]; simp only [List.length_cons, List.length_nil]; omega
    refine callW (putSteps_ok k5.wb [c.steps[k], c.comps[k]] (by simp) (by
      intro x hx
      simp only [List.mem_cons, List.not_mem_nil, or_false] at hx
      rcases hx with rfl | rfl
      · exact ⟨hsw _ (List.getElem_mem k1), css _ (List.getElem_mem k1)⟩
      · exact ⟨hcw _ (List.getElem_mem k2'), csc _ (List.getElem_mem k2')⟩) hlw) (by simp [encStp]) fun r h6 t6 q6 => ?_
    have k6 := k5.trans q6
    have hw9 : ws ++ writeAll [iS c.name, iN c.args 3, iN c.steps.length 4] ++ writeAll ((Z.take k).flatMap pairItems) ++ writeAll ([c.steps[k], c.comps[k]].flatMap stpItems) = ws ++ writeAll [iS c.name, iN c.args 3, iN c.steps.length 4] ++ writeAll ((Z.take (k + 1)).flatMap pairItems) := by
      rw [he, writeAll_app, pairItems]; simp
    rw [hw9] at k6
    have l6 : h'.ln ≤ h6.ln := q6.keep.ln
    have p6 : h6.lp h4.ln = some ⟨S, [21, 22], c21_x9, c21_y10, .busy, none⟩ := by rw [q6.keep.lp h4.ln (by simpa using j1)]; simp
    have b6 : h'.bn + 1 + 1 ≤ h6.bn := q6.keep.bn
    have e6 : h6.bx h3.bn = some (encCls c) := by
      have z1 : ¬ h3.bn = h'.bn := by omega
      have z2 : ¬ h3.bn = h'.bn + 1 := by omega
      rw [q6.keep.bx h3.bn (by simp; omega) (fun e => by have e : h3.bn = b := e; omega)]
      simp [z1, z2, j4]
    have l7 : h4.ln < h6.ln := by omega
    simp -implicitDefEqProofs [roundQ, l7, p6]
    refine hK1 _ ⟨by simpa using l7, by simp [q0], by simp; omega, by simpa using e6, ?_, t6, k6.sl hln _⟩
    rw [he, writeAll_app, List.length_append]
    omega
  · refine ⟨by simp, by simp [q0], by simp, by simpa using e4, by simp [writeAll], t3, ?_⟩
    have := k4.nl q0
    simpa [writeAll] using this
  · rintro v h5 (⟨j1, j2, _⟩ | hf)
    · exact ⟨j1, _, j2, by simp [q0]⟩
    · exact hf.elim
  · rintro v h5 q (⟨j1, j2, j3, j4, j5, t', j6⟩ | hf) hq
    · rw [j2] at hq
      cases hq
      have k7 := j6.sl hln none
      obtain ⟨n7, x7, y7⟩ := bX _ _ _ k7
      have m7 : h.bn < (h5.setLoop h4.ln none).bn := by omega
      have htk : Z.take c.steps.length = Z := List.take_of_length_le (by omega)
      rw [htk] at k7
      rw [htk] at j5
      simp only [pendK, q0, List.nil_append]
      generalize hh5 : h5.setLoop h4.ln none = h8 at *
      simp -implicitDefEqProofs [s2, s3, n7, x7, y7, m7]
      refine callW (wflag_ok k7.wb c.resume (by rw [List.length_append, ← hhead, List.length_append, List.length_append, List.length_append]; simp only [List.length_cons, List.length_nil]; omega)) (by simp) fun r h9 t9 q9 => ?_
      have k9 := k7.trans q9
      simp -implicitDefEqProofs []
      refine ⟨t9, ?_⟩
      have hw9 : ws ++ writeAll [iS c.name, iN c.args 3, iN c.steps.length 4] ++ writeAll (Z.flatMap pairItems) ++ [if c.resume = true then 1 else 0] = ws ++ writeAll (clsItems c) := by
        have e : clsItems c = [iS c.name, iN c.args 3, iN c.steps.length 4] ++ Z.flatMap pairItems ++ [iF c.resume] := rfl
        rw [e, writeAll_app, writeAll_app]
        simp [writeAll, w_iF]
      rw [hw9] at k9
      rw [← hh0] at k9
      exact k9.alloc.alloc
    · exact hf.elim
end Go.Proofs

/- What is written, as items: the document's answer. -/
namespace Go.Proofs
open Go Go.RowKit Go.Am

/-- Cells that are these items', where what a slice is over doesn't count. -/
def AreI (es : List (List AV)) (a : List Item) : Prop := es.map (List.map wk) = a.map encI
theorem AreI.len {es : List (List AV)} {a : List Item} (h : AreI es a) : es.length = a.length := by have := congrArg List.length h; simpa using this
theorem AreI.six {es : List (List AV)} {a : List Item} (h : AreI es a) : ∀ e ∈ es, e.length = 6 := fun e he => by
  have hm : e.map wk ∈ a.map encI := by rw [← h]; exact List.mem_map.2 ⟨e, he, rfl⟩
  obtain ⟨x, _, hx⟩ := List.mem_map.1 hm
  have := congrArg List.length hx
  simpa [encI] using this.symm
theorem AreI.app {es es2 : List (List AV)} {a b : List Item} (h : AreI es a) (h2 : AreI es2 b) : AreI (es ++ es2) (a ++ b) := by unfold AreI at *; rw [List.map_append, List.map_append, h, h2]
theorem AreI.self (a : List Item) : AreI (a.map encI) a := by unfold AreI; simp []
/-- Items are appended. -/
theorem appQ_i {h : H} {t t2 : Tok} {es es2 : List (List AV)} {a b : List Item} {K : AV → H → Prop} (e1 : AreI es a) (e2 : AreI es2 b) (ht : TLive h t es.length) (hl : a.length + b.length ≤ 100000)
    (hk : ∀ t' h' es', AreI es' (a ++ b) → TLive h' t' es'.length → HF h h' (fun _ => False) (TOwn t) → h'.bn = h.bn → K (.sl t' es') h') : appQ h 6 72 (.sl t es) (.sl t2 es2) K := by
  refine appQ_tok (es2 := es2) ht e1.six ?_ (by rw [e1.len, e2.len]; omega) fun t' h' q1 q2 q3 q4 => hk t' h' _ (e1.app e2) q1 q3 q4
  simp only [srcA]
  rw [if_pos e2.six]

theorem keyItems_ok (k : KeyT) : PCall Tryz.prog 77 [.agg (encKeyT k)] (encIs (keyItems k)) := by
  refine PCall.run hb77 ok77 (by simp) (pures1 (.agg (pures_cons (.int _ _) (pures1 (.int _ _))))) (pure_encIs _) ?_
  simp -implicitDefEqProofs [encKeyT, H.nil]
  simp [encIs, keyItems, iX, iN, encI]

theorem inst_n (x : Inst) : (instItems x).length = 9 := rfl
theorem span_n (x : SpanT) : (spanItems x).length = 5 := rfl
theorem prog_n (l : List Inst) : (l.flatMap instItems).length = 9 * l.length := flat_len _ 9 inst_n l
theorem foot_n (l : List SpanT) : (l.flatMap spanItems).length = 5 * l.length := flat_len _ 5 span_n l

theorem refProgItems_ok (l : List Inst) (h8 : l.length ≤ 8) : PCall Tryz.prog 55 [.sl .no (l.map encInst)] (encIs (progItems l)) := by
  refine PCall.run hb55 ok55 (by simp) (pures1 (elOK_Inst.pureL l)) (pure_encIs _) ?_
  simp -implicitDefEqProofs [H.nil]
  refine run_loop (fun m S h1 => ∃ (j : Nat) (t : Tok), m = l.length - j ∧ j ≤ l.length ∧ S 0 = .sl .no (l.map encInst) ∧ (∃ es, S 3 = .sl t es ∧ AreI es (iN l.length 8 :: (l.take j).flatMap instItems) ∧ TLive h1 t es.length) ∧ S 4 = .int .i64 j) ?_ l.length ?_
  rotate_left
  · exact ⟨0, .full, rfl, Nat.zero_le _, by simp, ⟨_, by simp; rfl, by simp [AreI, iN, encI], trivial⟩, by simp⟩
  rintro m S h1 ⟨j, t, hm, hj, s0, ⟨es, s3, hA0, hL⟩, s4⟩ ih
  by_cases hlt : j < l.length
  · have he := flat_snoc instItems hlt
    have hn := prog_n (l.take j)
    rw [List.length_take] at hn
    generalize hxe : l[j] = x at he
    generalize hA : iN l.length 8 :: (l.take j).flatMap instItems = A at hA0
    have hAl : A.length ≤ 80 := by rw [← hA]; simp only [List.length_cons]; omega
    simp -implicitDefEqProofs [s0, s3, s4, hlt, hxe, encInst]
    refine appQ_i (b := [iN x.op 255, iN x.a 255, iN x.b 255, iN x.c 255]) hA0 (by simp [AreI, iN, encI]) hL (by simp only [List.length_cons, List.length_nil]; omega) fun t1 h2 e1 a1 p1 p2 p3 => ?_
    have f2 : h2.bx h1.bn = some (encInst x) := by rw [p2.bx _ (by simp) (fun h => h)]; simp [encInst]
    rw [encInst] at f2
    have n2 : h1.bn < h2.bn := by rw [p3]; simp
    simp -implicitDefEqProofs []
    refine run_dreg c55_d7 ?_
    simp -implicitDefEqProofs [f2, n2]
    refine lcallQ_p (keyItems_ok x.k) (by simp [encKeyT]) ?_
    simp -implicitDefEqProofs [encIs]
    refine appQ_i a1 (AreI.self (keyItems x.k)) p1 (by simp only [List.length_append, List.length_cons, List.length_nil, keyItems]; omega) fun t2 h3 e2 a2 r1 r2 r3 => ?_
    have f3 : h3.bx h1.bn = some (encInst x) := by rw [r2.bx _ n2 (fun h => h), f2]; rfl
    rw [encInst] at f3
    have n3 : h1.bn < h3.bn := by rw [r3]; exact n2
    simp -implicitDefEqProofs [f3, n3]
    refine lcallQ_p (keyItems_ok x.l) (by simp [encKeyT]) ?_
    simp -implicitDefEqProofs [encIs]
    refine appQ_i a2 (AreI.self (keyItems x.l)) r1 (by simp only [List.length_append, List.length_cons, List.length_nil, keyItems]; omega) fun t3 h4 e3 a3 u1 u2 u3 => ?_
    have f4 : h4.bx h1.bn = some (encInst x) := by rw [u2.bx _ n3 (fun h => h), f3]; rfl
    rw [encInst] at f4
    have n4 : h1.bn < h4.bn := by rw [u3]; exact n3
    simp -implicitDefEqProofs [f2, n2, f3, n3, f4, n4]
    refine appQ_i (b := [iX x.x]) a3 (by simp [AreI, iX, encI]) u1 (by simp only [List.length_append, List.length_cons, List.length_nil, keyItems]; omega) fun t4 h5 e4 a4 v1 v2 v3 => ?_
    have hfin : A ++ [iN x.op 255, iN x.a 255, iN x.b 255, iN x.c 255] ++ keyItems x.k ++ keyItems x.l ++ [iX x.x] = iN l.length 8 :: (l.take (j + 1)).flatMap instItems := by
      rw [he, ← hA, instItems]; simp
    rw [hfin] at a4
    simp -implicitDefEqProofs [s4, inc_i64 hlt (show l.length ≤ _ by omega), -Int.natCast_add]
    exact ih (l.length - (j + 1)) _ _ (by omega) ⟨j + 1, t4, rfl, by omega, by simp [s0], ⟨e4, by simp, a4, v1⟩, by simp⟩
  · obtain rfl : j = l.length := by omega
    rw [List.take_length] at hA0
    simp -implicitDefEqProofs [s0, s3, s4]
    rw [encIs, progItems]
    exact congrArg (AV.sl .no) hA0
end Go.Proofs

/- What is written of footprints and classes, as items; the words of items: the document's answer. -/
namespace Go.Proofs
open Go Go.RowKit Go.Am

theorem refFootItems_ok (l : List SpanT) (h8 : l.length ≤ 4) : PCall Tryz.prog 56 [.sl .no (l.map encSpanT)] (encIs (footItems l)) := by
  refine PCall.run hb56 ok56 (by simp) (pures1 (elOK_SpanT.pureL l)) (pure_encIs _) ?_
  simp -implicitDefEqProofs [H.nil]
  refine run_loop (fun m S h1 => ∃ (j : Nat) (t : Tok), m = l.length - j ∧ j ≤ l.length ∧ S 0 = .sl .no (l.map encSpanT) ∧ (∃ es, S 3 = .sl t es ∧ AreI es (iN l.length 4 :: (l.take j).flatMap spanItems) ∧ TLive h1 t es.length) ∧ S 4 = .int .i64 j) ?_ l.length ?_
  rotate_left
  · exact ⟨0, .full, rfl, Nat.zero_le _, by simp, ⟨_, by simp; rfl, by simp [AreI, iN, encI], trivial⟩, by simp⟩
  rintro m S h1 ⟨j, t, hm, hj, s0, ⟨es, s3, hA0, hL⟩, s4⟩ ih
  by_cases hlt : j < l.length
  · have he := flat_snoc spanItems hlt
    have hn := foot_n (l.take j)
    rw [List.length_take] at hn
    generalize hxe : l[j] = x at he
    generalize hA : iN l.length 4 :: (l.take j).flatMap spanItems = A at hA0
    have hAl : A.length ≤ 80 := by rw [← hA]; simp only [List.length_cons]; omega
    have hfin : A ++ [iX x.lo.arg, iN x.lo.base 999, iX x.hi.arg, iN x.hi.base 999, iF x.write] = iN l.length 4 :: (l.take (j + 1)).flatMap spanItems := by
      rw [he, ← hA, spanItems, keyItems, keyItems]; simp
    cases hwr : x.write
    focus
      simp -implicitDefEqProofs [s0, s4, hlt, hxe, encSpanT, hwr]
    rotate_left
    focus
      simp -implicitDefEqProofs [s0, s4, hlt, hxe, encSpanT, hwr]
    all_goals
      refine run_dreg c56_d8 ?_
      simp -implicitDefEqProofs [s0, s3, s4, hlt, hxe, encSpanT]
      refine appQ_i (b := [iX x.lo.arg, iN x.lo.base 999, iX x.hi.arg, iN x.hi.base 999, iF x.write]) hA0 (by simp [AreI, iN, iX, iF, encI, hwr]) hL (by simp only [List.length_cons, List.length_nil]; omega) fun t1 h2 e1 a1 p1 p2 p3 => ?_
      rw [hfin] at a1
      simp -implicitDefEqProofs [s4, inc_i64 hlt (show l.length ≤ _ by omega), -Int.natCast_add]
      exact ih (l.length - (j + 1)) _ _ (by omega) ⟨j + 1, t1, rfl, by omega, by simp [s0], ⟨e1, by simp, a1, p1⟩, by simp⟩
  · obtain rfl : j = l.length := by omega
    rw [List.take_length] at hA0
    simp -implicitDefEqProofs [s0, s3, s4]
    rw [encIs, footItems]
    exact congrArg (AV.sl .no) hA0

theorem stpI_n (s : Stp) (h : s.small) : (stpItems s).length ≤ 94 := by
  rw [stpItems, progItems, footItems, List.length_append, List.length_cons, List.length_cons, prog_n, foot_n]
  have := h.1; have := h.2; omega

set_option maxHeartbeats 1000000 in
theorem refClsItems_ok (c : Cls) (hm : clsMay c = true) : PCall Tryz.prog 30 [.agg (encCls c)] (encIs (clsItems c)) := by
  refine PCall.run hb30 ok30 (by simp) (pures1 (.agg (pure_encCls c))) (pure_encIs _) ?_
  obtain ⟨c0, c4, hcs, css, csc⟩ := clsMay_small hm
  simp -implicitDefEqProofs [encCls, H.nil]
  refine run_loop (fun m S h1 => ∃ (j : Nat) (t : Tok), m = c.steps.length - j ∧ j ≤ c.steps.length ∧ S 1 = .ptr 0 0 ∧ 0 < h1.bn ∧ h1.bx 0 = some [.str c.name, .int .i64 c.args, .sl .no (c.steps.map encStp), .sl .no (c.comps.map encStp), .bool c.resume] ∧
    (∃ es, S 3 = .sl t es ∧ AreI es ([iS c.name, iN c.args 3, iN c.steps.length 4] ++ ((c.steps.zip c.comps).take j).flatMap pairItems) ∧ TLive h1 t es.length) ∧ S 4 = .int .i64 j ∧ (((c.steps.zip c.comps).take j).flatMap pairItems).length ≤ 188 * j) ?_ c.steps.length ?_
  rotate_left
  · exact ⟨0, .full, rfl, Nat.zero_le _, by simp, by simp, by simp, ⟨_, by simp; rfl, by simp [AreI, iN, iS, encI], trivial⟩, by simp, by simp⟩
  rintro m S h1 ⟨j, t, hm', hj, s1, n1, b1, ⟨es, s3, hA0, hL⟩, s4, hlen⟩ ih
  by_cases hlt : j < c.steps.length
  · have hlt2 : j < c.comps.length := by omega
    have hz : j < (c.steps.zip c.comps).length := by simp [hcs]; omega
    have he := flat_snoc pairItems hz
    have hzk : (c.steps.zip c.comps)[j] = (c.steps[j], c.comps[j]) := by simp
    rw [hzk] at he
    have sm1 := css _ (List.getElem_mem hlt)
    have sm2 := csc _ (List.getElem_mem hlt2)
    have sn1 := stpI_n _ sm1
    have sn2 := stpI_n _ sm2
    rw [stpItems, List.length_append] at sn1 sn2
    generalize hA : [iS c.name, iN c.args 3, iN c.steps.length 4] ++ ((c.steps.zip c.comps).take j).flatMap pairItems = A at hA0
    have hAl : A.length ≤ 1000 := by rw [← hA]; simp only [List.length_append, List.length_cons, List.length_nil]; omega
    simp -implicitDefEqProofs [s1, s3, s4, hlt, hlt2, n1, b1, encStp]
    refine callQ_p (refProgItems_ok c.steps[j].code sm1.1) (by simp) ?_
    simp -implicitDefEqProofs [encIs]
    refine appQ_i hA0 (AreI.self _) hL (by omega) fun t1 h2 e1 a1 p1 p2 p3 => ?_
    have b2 := (p2.bx 0 n1 fun h => h).trans b1
    have n2 : 0 < h2.bn := by rw [p3]; exact n1
    simp -implicitDefEqProofs [s1, s4, hlt, n2, b2, encStp]
    refine callQ_p (refFootItems_ok c.steps[j].foot sm1.2) (by simp) ?_
    simp -implicitDefEqProofs [encIs]
    refine appQ_i a1 (AreI.self _) p1 (by rw [List.length_append]; omega) fun t2 h3 e2 a2 q1 q2 q3 => ?_
    have b3 := (q2.bx 0 n2 fun h => h).trans b2
    have n3 : 0 < h3.bn := by rw [q3]; exact n2
    simp -implicitDefEqProofs [s1, s4, hlt2, n3, b3, encStp]
    refine callQ_p (refProgItems_ok c.comps[j].code sm2.1) (by simp) ?_
    simp -implicitDefEqProofs [encIs]
    refine appQ_i a2 (AreI.self _) q1 (by rw [List.length_append, List.length_append]; omega) fun t3 h4 e3 a3 r1 r2 r3 => ?_
    have b4 := (r2.bx 0 n3 fun h => h).trans b3
    have n4 : 0 < h4.bn := by rw [r3]; exact n3
    simp -implicitDefEqProofs [s1, s4, hlt2, n4, b4, encStp]
    refine callQ_p (refFootItems_ok c.comps[j].foot sm2.2) (by simp) ?_
    simp -implicitDefEqProofs [encIs]
    refine appQ_i a3 (AreI.self _) r1 (by rw [List.length_append, List.length_append, List.length_append]; omega) fun t4 h5 e4 a4 u1 u2 u3 => ?_
    have b5 := (u2.bx 0 n4 fun h => h).trans b4
    have n5 : 0 < h5.bn := by rw [u3]; exact n4
    have hfin : A ++ progItems c.steps[j].code ++ footItems c.steps[j].foot ++ progItems c.comps[j].code ++ footItems c.comps[j].foot = [iS c.name, iN c.args 3, iN c.steps.length 4] ++ ((c.steps.zip c.comps).take (j + 1)).flatMap pairItems := by
      rw [he, ← hA, pairItems, stpItems, stpItems]; simp
    rw [hfin] at a4
    simp -implicitDefEqProofs [s4, inc_i64 hlt (show c.steps.length ≤ _ by omega), -Int.natCast_add]
    exact ih (c.steps.length - (j + 1)) _ _ (by omega) ⟨j + 1, t4, rfl, by omega, by simp [s1], n5, b5, ⟨e4, by simp, a4, u1⟩, by simp, by
      have e1 : (pairItems (c.steps[j], c.comps[j])).length ≤ 188 := by
        simp only [pairItems, stpItems, List.length_append]; omega
      rw [he, List.length_append]; omega⟩
  · obtain rfl : j = c.steps.length := by omega
    rw [List.take_of_length_le (by simp; omega)] at hA0 hlen
    have hfin : [iS c.name, iN c.args 3, iN c.steps.length 4] ++ (c.steps.zip c.comps).flatMap pairItems ++ [iF c.resume] = clsItems c := rfl
    cases hr : c.resume
    · simp -implicitDefEqProofs [s1, s3, s4, n1, b1, hr]
      refine appQ_i (b := [iF c.resume]) hA0 (by simp [AreI, iF, encI, hr]) hL (by simp only [List.length_append, List.length_cons, List.length_nil]; omega) fun t1 h2 e1 a1 p1 p2 p3 => ?_
      rw [hfin] at a1
      simp -implicitDefEqProofs []
      exact congrArg (AV.sl .no) a1
    · simp -implicitDefEqProofs [s1, s3, s4, n1, b1, hr]
      refine appQ_i (b := [iF c.resume]) hA0 (by simp [AreI, iF, encI, hr]) hL (by simp only [List.length_append, List.length_cons, List.length_nil]; omega) fun t1 h2 e1 a1 p1 p2 p3 => ?_
      rw [hfin] at a1
      simp -implicitDefEqProofs []
      exact congrArg (AV.sl .no) a1
end Go.Proofs

/- The words of items: the document's answer; what is the same as itself: the program's answer. -/
namespace Go.Proofs
open Go Go.RowKit Go.Am

theorem refWords_ok (l : List Item) (hl : l.length ≤ 5000) (hx : ∀ x ∈ l, x.ok ∧ x.l.length ≤ 100) : PCall Tryz.prog 11 [encIs l] (encW (writeAll l)) := by
  refine PCall.run hb11 ok11 (by simp) (pures1 (pure_encIs l)) (pure_w64 _) ?_
  simp -implicitDefEqProofs [encIs, H.nil]
  refine run_loop (fun m S h1 => ∃ (j : Nat) (t : Tok), m = l.length - j ∧ j ≤ l.length ∧ S 0 = .sl .no (l.map encI) ∧ S 3 = .sl t ((writeAll (l.take j)).map w64) ∧ S 4 = .int .i64 j ∧ TLive h1 t (writeAll (l.take j)).length) ?_ l.length ?_
  rotate_left
  · exact ⟨0, .full, rfl, Nat.zero_le _, by simp, by simp [writeAll], by simp, trivial⟩
  rintro m S h1 ⟨j, t, hm, hj, s0, s3, s4, hL⟩ ih
  by_cases hlt : j < l.length
  · have hb := writeAll_len (l.take j) fun x hx' => (hx x (List.mem_of_mem_take hx')).2
    rw [List.length_take] at hb
    obtain ⟨x1, x2⟩ := hx _ (List.getElem_mem hlt)
    have hsnoc : writeAll (l.take (j + 1)) = writeAll (l.take j) ++ writeW l[j] := by
      unfold writeAll
      rw [List.take_succ_eq_append_getElem hlt, List.flatMap_append, List.flatMap_singleton]
    have e6 : (encI l[j]).length = 6 := rfl
    have e7 : List.take 6 (encI l[j]) = encI l[j] := rfl
    simp -implicitDefEqProofs [s0, s3, s4, hlt, e6, e7]
    refine callQ_ex (refWrite_ok hL l[j] x1 (by omega)) fun r2 h2 ⟨t3, q2⟩ => ?_
    obtain ⟨rfl, p2, p3, p4⟩ := q2
    rw [← hsnoc] at p2
    rw [← hsnoc]
    simp -implicitDefEqProofs [s4, inc_i64 hlt (show l.length ≤ _ by omega), -Int.natCast_add]
    exact ih (l.length - (j + 1)) _ _ (by omega) ⟨j + 1, t3, rfl, by omega, by simp [s0], by simp, by simp, p2⟩
  · obtain rfl : j = l.length := by omega
    rw [List.take_length] at s3
    simp -implicitDefEqProofs [s0, s3, s4]

end Go.Proofs

/- What is written of a class is read as that class: plain laws. -/
namespace Go.Proofs
open Go Go.RowKit Go.Am

theorem cut64_whole {s : ByteArray} (h : ¬ 64 < s.size) : cut64 s = s := by
  refine bytes_ext (by rw [cut64_size]; omega) fun j hj => ?_
  rw [cut64_size] at hj
  have h1 : s.data.size = s.size := rfl
  have h2 : min s.size 64 = s.size := by omega
  unfold byteAt cut64
  simp only [ByteArray.data_extract, Array.getElem?_extract, h1, h2]
  rw [if_pos (by omega)]
  simp
/-- These words, whatever follows, are read as this. -/
def Back {α : Type} (p : Rd α) (ws : List Nat) (a : α) : Prop := ∀ rest, p (ws ++ rest) = some (a, rest)
theorem Back.bind {α β : Type} {p : Rd α} {q : α → Rd β} {w1 w2 : List Nat} {a : α} {b : β} (h1 : Back p w1 a) (h2 : Back (q a) w2 b) : Back (p.bind q) (w1 ++ w2) b := fun rest => by
  rw [Rd.bind, List.append_assoc, h1]; exact h2 rest
theorem Back.pure {α : Type} (a : α) : Back (Rd.pure a) [] a := fun rest => rfl
theorem Back.last {α β : Type} {p : Rd α} {q : α → Rd β} {w1 : List Nat} {a : α} {b : β} (h1 : Back p w1 a) (h2 : Back (q a) [] b) : Back (p.bind q) w1 b := by
  have := h1.bind h2
  rwa [List.append_nil] at this
theorem Back.count {n most : Int} (h0 : 0 ≤ n) (h1 : n ≤ most) : Back (rdCount most) [n.toNat] n := fun rest => by
  have e : ((n.toNat : Nat) : Int) = n := by omega
  simp only [List.cons_append, List.nil_append, rdCount]
  rw [if_pos ⟨by omega, by omega⟩, e]
theorem Back.signed (x : Int) : Back rdSigned [Proofs.signed x] x := fun rest => by simp [rdSigned, backI_signed]
theorem Back.flag (r : Bool) : Back rdFlag [if r then 1 else 0] r := fun rest => by cases r <;> simp [rdFlag, rdCount]
theorem Back.text {s : ByteArray} (h : s.size ≤ 64) : Back rdText (textW s) s := fun rest => by rw [rdText_write, cut64_whole (by omega)]
theorem Back.rep {α : Type} {p : Rd α} {f : α → List Nat} {L : List α} (h : ∀ a ∈ L, Back p (f a) a) : Back (Rd.rep p L.length) (L.flatMap f) L := by
  have key : ∀ k, k ≤ L.length → Back (Rd.rep p k) ((L.take k).flatMap f) (L.take k) := fun k => by
    induction k with
    | zero => intro _; exact Back.pure _
    | succ k ih =>
      intro hk
      have hlt : k < L.length := by omega
      rw [flat_snoc f hlt, List.take_succ_eq_append_getElem hlt]
      exact (ih (by omega)).bind ((h _ (List.getElem_mem hlt)).last (Back.pure _))
  have := key L.length (Nat.le_refl _)
  rwa [List.take_length] at this

def keyOK (k : KeyT) : Prop := -1 ≤ k.arg ∧ k.arg ≤ 255 ∧ 0 ≤ k.base ∧ k.base ≤ 999
def instOK (x : Inst) : Prop := (0 ≤ x.op ∧ x.op ≤ 255) ∧ (0 ≤ x.a ∧ x.a ≤ 255) ∧ (0 ≤ x.b ∧ x.b ≤ 255) ∧ (0 ≤ x.c ∧ x.c ≤ 255) ∧ keyOK x.k ∧ keyOK x.l
def stpOK (s : Stp) : Prop := (s.code.length ≤ 8 ∧ ∀ x ∈ s.code, instOK x) ∧ s.foot.length ≤ 4 ∧ ∀ x ∈ s.foot, keyOK x.lo ∧ keyOK x.hi

theorem back_key {k : KeyT} (h : keyOK k) : Back rdKey [signed k.arg, k.base.toNat] k := by
  obtain ⟨h1, h2, h3, h4⟩ := h
  exact (Back.signed k.arg).bind (w2 := [k.base.toNat]) (by rw [if_neg (by omega)]; exact (Back.count h3 h4).last (Back.pure _))
theorem back_inst {x : Inst} (h : instOK x) : Back rdInst (writeAll (instItems x)) x := by
  obtain ⟨⟨a1, a2⟩, ⟨b1, b2⟩, ⟨c1, c2⟩, ⟨d1, d2⟩, hk, hl⟩ := h
  have e : writeAll (instItems x) = [x.op.toNat] ++ ([x.a.toNat] ++ ([x.b.toNat] ++ ([x.c.toNat] ++ ([signed x.k.arg, x.k.base.toNat] ++ ([signed x.l.arg, x.l.base.toNat] ++ [signed x.x]))))) := rfl
  rw [e]
  exact (Back.count a1 a2).bind ((Back.count b1 b2).bind ((Back.count c1 c2).bind ((Back.count d1 d2).bind ((back_key hk).bind ((back_key hl).bind ((Back.signed x.x).last (Back.pure _)))))))
theorem back_span {s : SpanT} (h : keyOK s.lo ∧ keyOK s.hi) : Back rdSpanT (writeAll (spanItems s)) s := by
  have e : writeAll (spanItems s) = [signed s.lo.arg, s.lo.base.toNat] ++ ([signed s.hi.arg, s.hi.base.toNat] ++ [if s.write then 1 else 0]) := by rw [w_span]; rfl
  rw [e]
  exact (back_key h.1).bind ((back_key h.2).bind ((Back.flag s.write).last (Back.pure _)))
theorem back_prog {l : List Inst} (h8 : l.length ≤ 8) (h : ∀ x ∈ l, instOK x) : Back rdProg (writeAll (progItems l)) l := by
  rw [progItems, writeAll_cons, w_iN, writeAll_flat]
  refine (Back.count (n := (l.length : Int)) (by omega) (by omega)).bind ?_
  rw [Int.toNat_natCast]
  exact Back.rep fun x hx => back_inst (h x hx)
theorem back_foot {l : List SpanT} (h4 : l.length ≤ 4) (h : ∀ x ∈ l, keyOK x.lo ∧ keyOK x.hi) : Back rdFoot (writeAll (footItems l)) l := by
  rw [footItems, writeAll_cons, w_iN, writeAll_flat]
  refine (Back.count (n := (l.length : Int)) (by omega) (by omega)).bind ?_
  rw [Int.toNat_natCast]
  exact Back.rep fun x hx => back_span (h x hx)
theorem back_stp {s : Stp} (h : stpOK s) : Back rdStp (writeAll (stpItems s)) s := by
  rw [stpItems, writeAll_app]
  exact (back_prog h.1.1 h.1.2).bind ((back_foot h.2.1 h.2.2).last (Back.pure _))
theorem back_pair {p : Stp × Stp} (h : stpOK p.1 ∧ stpOK p.2) : Back rdPair (writeAll (pairItems p)) p := by
  rw [pairItems, writeAll_app]
  exact (back_stp h.1).bind ((back_stp h.2).last (Back.pure _))

theorem key_ok {k : KeyT} {args : Int} (h3 : args ≤ 3) (h : mayKey k args = true) : keyOK k := by
  simp only [mayKey, Bool.and_eq_true, decide_eq_true_eq] at h
  simp only [keyOK]; omega
theorem none_ok {k : KeyT} (h : keyNone k = true) : keyOK k := by
  simp only [keyNone, decide_eq_true_eq] at h
  simp only [keyOK]; omega
theorem inst_okM {x : Inst} {args : Int} (h3 : args ≤ 3) (h : oneInst x args = true) : instOK x := by
  have hr : ∀ {n : Int}, isReg n = true → 0 ≤ n ∧ n ≤ 255 := fun {n} h => by
    simp only [isReg, Bool.and_eq_true, Bool.not_eq_true', decide_eq_false_iff_not] at h; omega
  have z : ∀ {n : Int}, n = 0 → 0 ≤ n ∧ n ≤ 255 := fun {n} h => by omega
  unfold oneInst at h
  by_cases o1 : x.op = 1 ∨ x.op = 2
  · rw [if_pos o1] at h
    simp only [Bool.and_eq_true, decide_eq_true_eq] at h
    obtain ⟨⟨⟨⟨⟨a1, a2⟩, a3⟩, a4⟩, a5⟩, a6⟩ := h
    exact ⟨by omega, hr a1, z a3, z a4, key_ok h3 a6, none_ok a5⟩
  by_cases o3 : x.op = 3
  · rw [if_neg o1, if_pos o3] at h
    simp only [Bool.and_eq_true, decide_eq_true_eq] at h
    obtain ⟨⟨⟨⟨⟨a1, a2⟩, a3⟩, a4⟩, a5⟩, a6⟩ := h
    exact ⟨by omega, z a1, z a3, z a4, key_ok h3 a6, none_ok a5⟩
  by_cases o4 : x.op = 4
  · rw [if_neg o1, if_neg o3, if_pos o4] at h
    simp only [Bool.and_eq_true, decide_eq_true_eq] at h
    obtain ⟨⟨⟨⟨⟨a1, a2⟩, a3⟩, a4⟩, a5⟩, a6⟩ := h
    exact ⟨by omega, hr a1, z a3, z a4, key_ok h3 a5, key_ok h3 a6⟩
  by_cases o5 : x.op = 5 ∨ x.op = 8
  · rw [if_neg o1, if_neg o3, if_neg o4, if_pos o5] at h
    simp only [Bool.and_eq_true, decide_eq_true_eq] at h
    obtain ⟨⟨⟨⟨a1, a2⟩, a3⟩, a4⟩, a5⟩ := h
    exact ⟨by omega, hr a1, z a2, z a3, none_ok a4, none_ok a5⟩
  by_cases o6 : x.op = 6 ∨ x.op = 7
  · rw [if_neg o1, if_neg o3, if_neg o4, if_neg o5, if_pos o6] at h
    simp only [Bool.and_eq_true, decide_eq_true_eq] at h
    obtain ⟨⟨⟨⟨⟨a1, a2⟩, a3⟩, a4⟩, a5⟩, a6⟩ := h
    exact ⟨by omega, hr a1, hr a3, hr a4, none_ok a5, none_ok a6⟩
  · rw [if_neg o1, if_neg o3, if_neg o4, if_neg o5, if_neg o6] at h
    cases h
theorem prog_okM {l : List Inst} {args : Int} (h : progMay l args = true) : l.length ≤ 8 ∧ ∀ x ∈ l, instOK x := by
  simp only [progMay, Bool.and_eq_true, Bool.not_eq_true', decide_eq_false_iff_not, List.all_eq_true] at h
  exact ⟨by omega, fun x hx => inst_okM (by omega) (h.2 x hx)⟩
theorem foot_okM {l : List SpanT} {args : Int} (h : footMay l args = true) : l.length ≤ 4 ∧ ∀ x ∈ l, keyOK x.lo ∧ keyOK x.hi := by
  simp only [footMay, Bool.and_eq_true, Bool.not_eq_true', decide_eq_false_iff_not, List.all_eq_true] at h
  exact ⟨by omega, fun x hx => ⟨key_ok (by omega) (h.2 x hx).1, key_ok (by omega) (h.2 x hx).2⟩⟩
theorem pair_okM {args : Int} {p : Stp × Stp} (h : stepMay args p = true) : stpOK p.1 ∧ stpOK p.2 := by
  simp only [stepMay, backMay, Bool.and_eq_true, Bool.or_eq_true, Bool.not_eq_true', decide_eq_false_iff_not] at h
  obtain ⟨⟨⟨h1, h2⟩, h3⟩, h4, _⟩ := h
  refine ⟨⟨prog_okM h1, foot_okM h2⟩, ?_, foot_okM h3⟩
  rcases h4 with h | h
  · have : p.2.code = [] := List.length_eq_zero_iff.1 (by omega)
    rw [this]; exact ⟨Nat.zero_le _, fun x hx => by cases hx⟩
  · exact prog_okM h

theorem zip_fst {α β : Type} : ∀ (a : List α) (b : List β), a.length = b.length → (a.zip b).map (·.1) = a ∧ (a.zip b).map (·.2) = b
  | [], [], _ => ⟨rfl, rfl⟩
  | x :: a, y :: b, h => by
    obtain ⟨h1, h2⟩ := zip_fst a b (by simpa using h)
    exact ⟨by simp [h1], by simp [h2]⟩
  | [], _ :: _, h => by simp at h
  | _ :: _, [], h => by simp at h
theorem back_cls {c : Cls} (h : clsMay c = true) : Back rdCls (writeAll (clsItems c)) c := by
  have h0 := h
  simp only [clsMay, Bool.and_eq_true, Bool.not_eq_true', decide_eq_false_iff_not, decide_eq_true_eq, List.all_eq_true] at h
  obtain ⟨⟨⟨⟨⟨⟨⟨n1, n2⟩, a1⟩, a2⟩, s1⟩, s2⟩, hcs⟩, hall⟩ := h
  have e : writeAll (clsItems c) = textW c.name ++ ([c.args.toNat] ++ ([(c.steps.length : Int).toNat] ++ (((c.steps.zip c.comps).flatMap fun p => writeAll (pairItems p)) ++ [if c.resume then 1 else 0]))) := by
    have e1 : clsItems c = [iS c.name, iN c.args 3, iN c.steps.length 4] ++ (c.steps.zip c.comps).flatMap pairItems ++ [iF c.resume] := rfl
    rw [e1, writeAll_app, writeAll_app, writeAll_flat]
    simp [writeAll, w_iS, w_iN, w_iF]
  rw [e]
  have hz : (c.steps.zip c.comps).length = c.steps.length := by simp [hcs]
  obtain ⟨z1, z2⟩ := zip_fst c.steps c.comps hcs.symm
  refine (Back.text (by omega)).bind ((Back.count (by omega) (by omega)).bind ((Back.count (n := (c.steps.length : Int)) (by omega) (by omega)).bind ?_))
  have hrep : Back (Rd.rep rdPair (c.steps.length : Int).toNat) ((c.steps.zip c.comps).flatMap fun p => writeAll (pairItems p)) (c.steps.zip c.comps) := by
    rw [Int.toNat_natCast, ← hz]
    exact Back.rep fun p hp => back_pair (pair_okM (hall p hp))
  refine hrep.bind ((Back.flag c.resume).last ?_)
  rw [z1, z2]
  exact Back.pure _
end Go.Proofs

/- The document's reader: items, templates, programs, footprints. -/
namespace Go.Proofs
open Go Go.RowKit Go.Am

def item00 : Item := ⟨0, 0, 0, 0, ⟨#[]⟩, []⟩
theorem runS_map {α β : Type} {p : Rd α} {q : Rd β} {d : α} {d' : β} {f : α → β} (g : β → α) (hd : g d' = d) (hg : ∀ a, g (f a) = a) (hq : ∀ l, q l = (p l).map fun x => (f x.1, x.2)) (s : RS) : g (runS q d' s).1 = (runS p d s).1 ∧ (runS q d' s).2 = (runS p d s).2 := by
  unfold runS
  cases s with
  | none => exact ⟨hd, rfl⟩
  | some l =>
    simp only [Option.bind_some, hq]
    cases p l with
    | none => exact ⟨hd, rfl⟩
    | some x => exact ⟨hg _, rfl⟩
theorem item_count (most : Int) (s : RS) : (runS (refRead 0 most) item00 s).1.n = (runS (rdCount most) 0 s).1 ∧ (runS (refRead 0 most) item00 s).2 = (runS (rdCount most) 0 s).2 :=
  runS_map (f := fun n => (⟨0, n, most, 0, ⟨#[]⟩, []⟩ : Item)) (·.n) rfl (fun _ => rfl) (fun l => by simp [refRead]) s
theorem item_signed (s : RS) : (runS (refRead 1 0) item00 s).1.x = (runS rdSigned 0 s).1 ∧ (runS (refRead 1 0) item00 s).2 = (runS rdSigned 0 s).2 :=
  runS_map (f := fun n => (⟨1, 0, 0, n, ⟨#[]⟩, []⟩ : Item)) (·.x) rfl (fun _ => rfl) (fun l => by simp [refRead]) s
theorem item_flag (s : RS) : decide ((runS (refRead 2 0) item00 s).1.n = 1) = (runS rdFlag false s).1 ∧ (runS (refRead 2 0) item00 s).2 = (runS rdFlag false s).2 := by
  have h := runS_map (p := rdCount 1) (q := refRead 2 0) (d := 0) (d' := item00) (f := fun n => (⟨2, n, 0, 0, ⟨#[]⟩, []⟩ : Item)) (·.n) rfl (fun _ => rfl) (fun l => by simp [refRead]) s
  have h1 : (runS (refRead 2 0) item00 s).1.n = (runS (rdCount 1) 0 s).1 := h.1
  have h2 : ((runS rdFlag false s).1 = true ↔ (runS (rdCount 1) 0 s).1 = 1) ∧ (runS rdFlag false s).2 = (runS (rdCount 1) 0 s).2 := by
    unfold runS rdFlag
    cases s with
    | none => simp
    | some l =>
      simp only [Option.bind_some]
      cases hq : rdCount 1 l <;> simp
  refine ⟨?_, h.2.trans h2.2.symm⟩
  rw [Bool.eq_iff_iff, decide_eq_true_eq, h1]
  exact h2.1.symm
theorem item_text (s : RS) : (runS (refRead 3 0) item00 s).1.s = (runS rdText ⟨#[]⟩ s).1 ∧ (runS (refRead 3 0) item00 s).2 = (runS rdText ⟨#[]⟩ s).2 := by
  have h := runS_map (p := rdTextW) (q := refRead 3 0) (d := (⟨#[]⟩, [])) (d' := item00) (f := fun n => (⟨3, 0, 0, 0, n.1, n.2⟩ : Item)) (fun y => (y.s, y.l)) rfl (fun _ => rfl) (fun l => by simp [refRead]) s
  have h1 : (runS (refRead 3 0) item00 s).1.s = (runS rdTextW (⟨#[]⟩, []) s).1.1 := congrArg Prod.fst h.1
  rw [h1, h.2]
  unfold runS
  cases s with
  | none => exact ⟨rfl, rfl⟩
  | some l =>
    simp only [Option.bind_some, rdText_W]
    cases rdTextW l with
    | none => exact ⟨rfl, rfl⟩
    | some x => exact ⟨rfl, rfl⟩

end Go.Proofs

/- The document's reader: templates, programs, footprints. -/
namespace Go.Proofs
open Go Go.RowKit Go.Am

theorem store_bad {s : RS} : List.take 1 (encRS s) ++ AV.bool true :: List.drop 2 (encRS s) = [(encRS s)[0]'(by cases s <;> simp [encRS]), .bool true] := by cases s <;> rfl

end Go.Proofs

/- The document's reader of programs and footprints, whole. -/
namespace Go.Proofs
open Go Go.RowKit Go.Am

/-- A loop of reading that isn't right any more. -/
structure BLoop {α : Type} (h : H) (b : Nat) (s1 : RS) (p : Rd α) (j : Nat) (h1 : H) (v : AV) (L : List α) (t : Tok) : Prop where
  keep : HF h h1 (· = b) (fun _ => False)
  blt : b < h1.bn
  bx : h1.bx b = some [v, .bool true]
  got : ∀ L', Got (Rd.rep p j) s1 L' none
  len : L.length = j
  live : TLive h1 t j
  new : TNew h t
theorem len_encRS {s : RS} : (encRS s).length = 2 := by cases s <;> rfl

end Go.Proofs

/- The document's reader of classes. -/
namespace Go.Proofs
open Go Go.RowKit Go.Am

end Go.Proofs

/- The law of what is read as a class. -/
namespace Go.Proofs
open Go Go.RowKit Go.Am

def aliveK : Cls := ⟨⟨#[97]⟩, 0, [⟨[⟨5, 0, 0, 0, ⟨0, 0⟩, ⟨0, 0⟩, 0⟩], []⟩], [⟨[], []⟩], false⟩
theorem aliveK_wf : aliveK.wf := by
  refine ⟨by decide, by simp [inI, aliveK], ⟨by decide, ?_⟩, by decide, ?_⟩
  · intro y hy
    simp only [aliveK, List.mem_singleton] at hy
    subst hy
    refine ⟨⟨by decide, ?_⟩, by decide, by simp⟩
    intro y hy
    simp only [List.mem_singleton] at hy
    subst hy
    simp [Inst.wf, KeyT.wf, inI]
  · intro y hy
    simp only [aliveK, List.mem_singleton] at hy
    subst hy
    exact ⟨⟨by decide, by simp⟩, by decide, by simp⟩
theorem clsR_wf {s : RS} (hs : Bd s) {c : Cls} {l : List Nat} (h : clsR s = some (c, l)) : c.wf := by
  simp only [clsR, Option.bind_eq_some_iff] at h
  obtain ⟨x, ⟨l0, h1, h2⟩, h3⟩ := h
  split at h3
  · cases h3
    exact rdCls_all l0 c l (hs l0 h1).2 h2
  · cases h3
theorem cls0_wf : cls0.wf := ⟨by decide, by simp [inI, cls0], ⟨by decide, by simp [cls0]⟩, by decide, by simp [cls0]⟩

end Go.Proofs

/- The law of what is written of a class. -/
namespace Go.Proofs
open Go Go.RowKit Go.Am

theorem writeW_less {x : Item} (hx : x.ok) (hw : ∀ w ∈ x.l, w < 18446744073709551616) : ∀ w ∈ writeW x, w < 18446744073709551616 := fun w h => by
  obtain ⟨⟨n1, n2⟩, ⟨x1, x2⟩, s1, l1⟩ := hx
  unfold writeW at h
  split at h
  · simp at h; omega
  split at h
  · simp at h; subst h; exact signed_lt x1 x2
  split at h
  · simp at h; subst h; split <;> omega
  split at h
  · simp only [textW, List.mem_cons] at h
    rcases h with rfl | h
    · have := cut64_size x.s; omega
    · exact packed_lt _ w h
  · simp only [List.mem_cons] at h
    rcases h with rfl | h
    · omega
    · exact hw w h
theorem writeAll_less {l : List Item} (h : ∀ x ∈ l, x.ok ∧ ∀ w ∈ x.l, w < 18446744073709551616) : ∀ w ∈ writeAll l, w < 18446744073709551616 := fun w hw => by
  obtain ⟨x, hx, hw⟩ := List.mem_flatMap.1 hw
  exact writeW_less (h x hx).1 (h x hx).2 w hw

def itOK (x : Item) : Prop := x.ok ∧ x.l = []
theorem it_N {n most : Int} (h : inI n) : itOK (iN n most) := ⟨⟨h, by simp [inI, iN], Nat.zero_le _, Nat.zero_le _⟩, rfl⟩
theorem it_X {x : Int} (h : inI x) : itOK (iX x) := ⟨⟨by simp [inI, iX], h, Nat.zero_le _, Nat.zero_le _⟩, rfl⟩
theorem it_F (r : Bool) : itOK (iF r) := ⟨⟨by cases r <;> simp [inI, iF], by simp [inI, iF], Nat.zero_le _, Nat.zero_le _⟩, rfl⟩
theorem it_S {s : ByteArray} (h : s.size ≤ 1000) : itOK (iS s) := ⟨⟨by simp [inI, iS], by simp [inI, iS], h, Nat.zero_le _⟩, rfl⟩
theorem it_keys {k : KeyT} (h : k.wf) : ∀ x ∈ keyItems k, itOK x := fun x hx => by
  simp only [keyItems, List.mem_cons, List.not_mem_nil, or_false] at hx
  rcases hx with rfl | rfl
  · exact it_X h.1
  · exact it_N h.2
theorem it_inst {y : Inst} (h : y.wf) : ∀ x ∈ instItems y, itOK x := fun x hx => by
  obtain ⟨h1, h2, h3, h4, h5, h6, h7⟩ := h
  simp only [instItems, List.mem_append, List.mem_cons, List.not_mem_nil, or_false] at hx
  rcases hx with ((rfl | rfl | rfl | rfl) | hx | hx) | rfl
  · exact it_N h1
  · exact it_N h2
  · exact it_N h3
  · exact it_N h4
  · exact it_keys h5 x hx
  · exact it_keys h6 x hx
  · exact it_X h7
theorem it_span {y : SpanT} (h : y.wf) : ∀ x ∈ spanItems y, itOK x := fun x hx => by
  simp only [spanItems, List.mem_append, List.mem_cons, List.not_mem_nil, or_false] at hx
  rcases hx with (hx | hx) | rfl
  · exact it_keys h.1 x hx
  · exact it_keys h.2 x hx
  · exact it_F _
theorem it_stp {s : Stp} (h : s.wf) : ∀ x ∈ stpItems s, itOK x := fun x hx => by
  obtain ⟨⟨h1, h2⟩, h3, h4⟩ := h
  simp only [maxLen] at h1 h3
  simp only [stpItems, progItems, footItems, List.mem_append, List.mem_cons, List.mem_flatMap] at hx
  rcases hx with (rfl | ⟨y, hy, hx⟩) | (rfl | ⟨y, hy, hx⟩)
  · exact it_N (by simp only [inI]; omega)
  · exact it_inst (h2 y hy) x hx
  · exact it_N (by simp only [inI]; omega)
  · exact it_span (h4 y hy) x hx
theorem it_cls {c : Cls} (h : c.wf) (hm : clsMay c = true) : ∀ x ∈ clsItems c, itOK x := fun x hx => by
  obtain ⟨hwn, hwa, ⟨hsl, hsw⟩, hcl, hcw⟩ := h
  have hn : c.name.size ≤ 16 := by
    simp only [clsMay, Bool.and_eq_true, Bool.not_eq_true', decide_eq_false_iff_not] at hm; omega
  simp only [maxLen] at hsl
  simp only [clsItems, List.mem_append, List.mem_cons, List.not_mem_nil, or_false, List.mem_flatMap] at hx
  rcases hx with ((rfl | rfl | rfl) | ⟨p, hp, hx⟩) | rfl
  · exact it_S (by omega)
  · exact it_N hwa
  · exact it_N (by simp only [inI]; omega)
  · have h1 := (List.of_mem_zip hp)
    rcases hx with hx | hx
    · exact it_stp (hsw _ h1.1) x hx
    · exact it_stp (hcw _ h1.2) x hx
  · exact it_F _
theorem clsI_len {c : Cls} (hm : clsMay c = true) : (clsItems c).length ≤ 1000 := by
  obtain ⟨c0, c4, hcs, css, csc⟩ := clsMay_small hm
  have key : ∀ l : List (Stp × Stp), (∀ p ∈ l, p.1.small ∧ p.2.small) → (l.flatMap pairItems).length ≤ 188 * l.length := fun l => by
    induction l with
    | nil => intro _; exact Nat.le_refl _
    | cons p l ih =>
      intro h
      have h1 := ih fun q hq => h q (List.mem_cons_of_mem _ hq)
      obtain ⟨s1, s2⟩ := h p (List.mem_cons_self ..)
      have e1 := stpI_n _ s1
      have e2 := stpI_n _ s2
      rw [List.flatMap_cons, List.length_append, pairItems, List.length_append, List.length_cons]
      omega
  have h1 := key (c.steps.zip c.comps) fun p hp => ⟨css _ (List.of_mem_zip hp).1, csc _ (List.of_mem_zip hp).2⟩
  have hz : (c.steps.zip c.comps).length = c.steps.length := by simp [hcs]
  have e1 : clsItems c = [iS c.name, iN c.args 3, iN c.steps.length 4] ++ (c.steps.zip c.comps).flatMap pairItems ++ [iF c.resume] := rfl
  rw [e1, List.length_append, List.length_append]
  simp only [List.length_cons, List.length_nil]
  omega

end Go.Proofs
