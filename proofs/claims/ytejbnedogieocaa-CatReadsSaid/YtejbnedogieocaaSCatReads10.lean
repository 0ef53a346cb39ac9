/- What the functions that the statement reaches do: their contracts; and what follows of it. -/
import Derived.Test.YtejbnedogieocaaSCatReads8
import Derived.Test.YtejbnedogieocaaSCatReads9
import Derived.Test.YtejbnedogieocaaSCatReads7
/- What is read as a catalogue: plain laws. -/
namespace Go.Proofs
open Go Go.RowKit Go.Am

def rdClsM : Rd Cls := fun l => (rdCls l).bind fun x => if clsMay x.1 = true then some x else none
theorem clsR_M (s : RS) : clsR s = s.bind rdClsM := by cases s <;> rfl
theorem clsRV_M (s : RS) : ∃ ok, clsRV s = .tup [.agg (encCls (runS rdClsM cls0 s).1), .bool ok] := by
  unfold clsRV runS
  rw [clsR_M]
  cases s.bind rdClsM with
  | none => exact ⟨_, rfl⟩
  | some x => exact ⟨_, rfl⟩
theorem clsRS_M (s : RS) : clsRS s = (runS rdClsM cls0 s).2 := by
  unfold clsRS runS
  rw [clsR_M]
  cases s.bind rdClsM <;> rfl
theorem rdClsM_ok : RdOK rdClsM := fun l a l' h => by
  simp only [rdClsM, Option.bind_eq_some_iff] at h
  obtain ⟨x, h1, h2⟩ := h
  split at h2
  · cases h2; exact rdCls_ok l a l' h1
  · cases h2
theorem rdClsM_all : RdAll rdClsM Cls.wf := fun l a l' hw h => by
  simp only [rdClsM, Option.bind_eq_some_iff] at h
  obtain ⟨x, h1, h2⟩ := h
  split at h2
  · cases h2; exact rdCls_all l a l' hw h1
  · cases h2

/-- Breakpoints, as they were read, row by row. -/
def lay (n : Nat) (B : List Int) : List Int := (List.range 16).map fun i => if i / 4 < n ∧ i % 4 < n then B.getD (i / 4 * n + i % 4) 0 else 0
theorem lay_len (n : Nat) (B : List Int) : (lay n B).length = 16 := by simp [lay]
theorem lay_get (n : Nat) (B : List Int) {i : Nat} (hi : i < (lay n B).length) : (lay n B)[i] = if i / 4 < n ∧ i % 4 < n then B.getD (i / 4 * n + i % 4) 0 else 0 := by simp [lay]
theorem lay_nil (n : Nat) : lay n [] = List.replicate 16 0 := by
  apply List.ext_getElem
  · simp [lay_len]
  intro i h1 h2
  rw [lay_get, List.getElem_replicate]; simp
theorem lay_step {n : Nat} (n4 : n ≤ 4) (B : List Int) (v : Int) {c d : Nat} (hc : c < n) (hd : d < n) (hB : B.length = c * n + d) : (lay n B).set (c * 4 + d) v = lay n (B ++ [v]) := by
  apply List.ext_getElem
  · simp [lay_len]
  intro i h1 h2
  have hi : i < 16 := by rw [lay_len] at h2; exact h2
  rw [List.getElem_set, lay_get, lay_get]
  by_cases h : c * 4 + d = i
  · subst h
    have e1 : (c * 4 + d) / 4 = c := by omega
    have e2 : (c * 4 + d) % 4 = d := by omega
    rw [if_pos rfl, e1, e2, if_pos ⟨hc, hd⟩, ← hB]
    simp
  · rw [if_neg h]
    by_cases hh : i / 4 < n ∧ i % 4 < n
    · rw [if_pos hh, if_pos hh]
      have hne : i / 4 * n + i % 4 ≠ c * n + d := fun he => by
        have q1 : i / 4 = c := by
          rcases Nat.lt_trichotomy (i / 4) c with q | q | q
          · have := Nat.mul_le_mul_right n (show i / 4 + 1 ≤ c by omega)
            rw [Nat.add_mul] at this; omega
          · exact q
          · have := Nat.mul_le_mul_right n (show c + 1 ≤ i / 4 by omega)
            rw [Nat.add_mul] at this; omega
        rw [q1] at he
        omega
      simp only [List.getD_eq_getElem?_getD]
      by_cases hlt : i / 4 * n + i % 4 < B.length
      · rw [List.getElem?_append_left hlt]
      · rw [List.getElem?_eq_none (by omega), List.getElem?_eq_none (by simp; omega)]
    · rw [if_neg hh, if_neg hh]
theorem lay_stepM {n : Nat} (n4 : n ≤ 4) (B : List Int) (v : Int) {c d : Nat} (hc : c < n) (hd : d < n) (hB : B.length = c * n + d) : List.take (c * 4 + d) ((lay n B).map (AV.int .i64)) ++ AV.int .i64 v :: List.drop (c * 4 + d + 1) ((lay n B).map (AV.int .i64)) = (lay n (B ++ [v])).map (AV.int .i64) := by
  rw [← lay_step n4 B v hc hd hB, List.map_set, List.set_eq_take_append_cons_drop, if_pos (by simp [lay_len]; omega)]

def rdCat : Rd Ctlg := (rdCount 4).bind fun n => (Rd.rep rdClsM n.toNat).bind fun L => (Rd.rep (rdCount 255) (n.toNat * n.toNat)).bind fun B => Rd.pure ⟨L, lay n.toNat B⟩
theorem rdCat_ok : RdOK rdCat := (rdCount_ok _).bind fun _ => (rdClsM_ok.rep _).bind fun _ => ((rdCount_ok _).rep _).bind fun _ => RdOK.pure _
theorem rdCat_all : RdAll rdCat Ctlg.wf := (rdCount_all 4).bind (rdCount_ok _) fun n hn => (rdClsM_all.rep rdClsM_ok n.toNat).bind (rdClsM_ok.rep _) fun L hL => ((rdCount_all 255).rep (rdCount_ok _) _).bind ((rdCount_ok _).rep _) fun B hB => RdAll.pure
  ⟨⟨by simp only [maxLen]; omega, hL.2⟩, lay_len _ _, fun y hy => by
    obtain ⟨i, hi, rfl⟩ := List.mem_iff_getElem.1 hy
    rw [lay_get]
    split
    · simp only [List.getD_eq_getElem?_getD]
      rcases hq : B[i / 4 * n.toNat + i % 4]? with _ | v
      · simp [inI]
      · have := hB.2 v (List.mem_of_getElem? hq)
        simp only [Option.getD_some, inI]; omega
    · simp [inI]⟩

def cat0 : Ctlg := ⟨[], List.replicate 16 0⟩
theorem cat0_wf : cat0.wf := ⟨⟨by decide, by simp [cat0]⟩, by decide, fun y hy => by have := List.eq_of_mem_replicate hy; subst this; simp [inI]⟩
def catR (s : RS) : Option (Ctlg × List Nat) := (s.bind rdCat).bind fun x => if catMay x.1 = true then some x else none
def catRV (s : RS) : AV := match catR s with
  | some (c, _) => .tup [.agg (encCtlg c), .bool true]
  | none => .tup [.agg (encCtlg cat0), .bool false]
def catRS (s : RS) : RS := (catR s).map (·.2)
theorem pure_catRV (s : RS) : PureV (catRV s) := by
  unfold catRV
  split <;> exact .tup (pures_cons (.agg (pure_encCtlg _)) (pures1 (.bool _)))
theorem catRS_bd {s : RS} (hs : Bd s) : Bd (catRS s) := fun l h => by
  simp only [catRS, catR, Option.map_eq_some_iff, Option.bind_eq_some_iff] at h
  obtain ⟨x, ⟨y, ⟨l0, h1, h2⟩, h3⟩, h4⟩ := h
  split at h3
  · cases h3
    have := rdCat_ok l0 x.1 x.2 h2
    rw [h4] at this
    exact ⟨Nat.le_trans this.1 (hs l0 h1).1, fun w hw => (hs l0 h1).2 w (this.2 w hw)⟩
  · cases h3
theorem catR_none {s : RS} {c : Ctlg} (h : Got rdCat s c none) : catR s = none := by
  unfold Got at h
  unfold catR
  cases hp : s.bind rdCat with
  | none => rfl
  | some x => rw [hp] at h; obtain ⟨_, h2⟩ := h; cases h2
theorem catR_some {s : RS} {c : Ctlg} {l : List Nat} (h : Got rdCat s c (some l)) : catR s = if catMay c = true then some (c, l) else none := by
  unfold Got at h
  unfold catR
  cases hp : s.bind rdCat with
  | none => rw [hp] at h; cases h
  | some x => rw [hp] at h; obtain ⟨rfl, h2⟩ := h; cases h2; rfl
theorem catR_wf {s : RS} (hs : Bd s) {c : Ctlg} {l : List Nat} (h : catR s = some (c, l)) : c.wf := by
  simp only [catR, Option.bind_eq_some_iff] at h
  obtain ⟨x, ⟨l0, h1, h2⟩, h3⟩ := h
  split at h3
  · cases h3
    exact rdCat_all l0 c l (hs l0 h1).2 h2
  · cases h3
end Go.Proofs

/- The program's reader of catalogues: its breakpoints. -/
namespace Go.Proofs
open Go Go.RowKit Go.Am

theorem get1_rd {h : H} {b bf : Nat} {s : RS} (hr : RIs h b s) (hf : bf < h.bn) (hbf : h.bx bf = some [.ptr b 0]) (c d : Int) : RdX 18 [.int .i64 c, .int .i64 d, .ptr bf 0] h b (.int .i64 (runS (rdCount 255) 0 s).1) (runS (rdCount 255) 0 s).2 := by
  refine RdX.mk' hr ((rdCount_ok 255).bd 0 hr.bd) (.int _ _) (CallP.run hb18 ok18 (by simp) ?_)
  simp -implicitDefEqProofs [hf, hbf]
  have hn := count_rd hr (most := 255) (by simp [inI])
  refine callQ_s hn.call (by simp) ?_
  simp -implicitDefEqProofs []
  exact hn.to.fin

set_option maxHeartbeats 1000000 in
theorem turnedQ_ok (x : Ctlg) (hw : x.breaks.length = 16) (n4 : x.classes.length ≤ 4) {h : H} {b bf : Nat} {s : RS} (hr : RIs h b s) (hbf0 : bf < h.bn) (hbf : h.bx bf = some [.ptr b 0]) (hne : ¬ bf = b) :
    CallP Try.prog 17 [.agg (encCtlg x), .fn 18 [] [.ptr bf 0]] h fun r h' => ∃ (B : List Int) (s' : RS), r = .agg ((lay x.classes.length B).map (AV.int .i64)) ∧ RTo h b h' s' ∧ Got (Rd.rep (rdCount 255) (x.classes.length * x.classes.length)) s B s' := by
  refine CallP.run hb17 ok17 (by simp) ?_
  have htk := x.take16 hw
  have hb := hr.blt
  simp -implicitDefEqProofs [encCtlg, htk, hw]
  refine callQ_s (pairs_ok x hw _) (by simp [encCtlg]) ?_
  simp -implicitDefEqProofs []
  generalize hS : (su _ 9 _ : Slots) = S
  have s3 : S 3 = .ptr (h.bn + 1) 0 := by rw [← hS]; simp
  have s4 : S 4 = .ptr (h.bn + 2) 0 := by rw [← hS]; simp
  have s5 : S 5 = .ptr (h.bn + 3) 0 := by rw [← hS]; simp
  have s9 : S 9 = .fn 46 [] [.ptr (h.bn + 4) 0] := by rw [← hS]; simp
  clear hS
  have k5 := ((((RTo.refl hr).al (.sl .no (x.classes.map encCls) :: x.breaks.map (AV.int .i64))).al [.fn 18 [] [.ptr bf 0]]).al (List.replicate 16 (.int .i64 0))).al (List.replicate 16 (.int .i64 0)) |>.al (encCtlg x)
  simp only [List.replicate] at k5
  generalize hH : (H.alloc _ (encCtlg x) : H) = h5 at k5 ⊢
  have e1 : h5.bx (h.bn + 1) = some [.fn 18 [] [.ptr bf 0]] := by rw [← hH]; simp
  have e2 : ∃ cs, h5.bx (h.bn + 2) = some cs ∧ cs.length = 16 := by rw [← hH]; exact ⟨_, by simp; rfl, rfl⟩
  have e3 : h5.bx (h.bn + 3) = some ((lay x.classes.length []).map (AV.int .i64)) := by rw [← hH, lay_nil]; simp [List.replicate]
  have e4 : h5.bx (h.bn + 4) = some (encCtlg x) := by rw [← hH]; simp [encCtlg]
  have e5 : h5.bn = h.bn + 5 := by rw [← hH]; simp
  have e6 : h5.ln = h.ln := by rw [← hH]; simp
  clear hH
  let q0 : LoopA := ⟨S, [10, 11], c17_x7, c17_y8, .ready, none⟩
  let J : Nat → H → Prop := fun k h' => h.ln < h'.ln ∧ h'.lp h.ln = some q0 ∧ h.bn + 5 ≤ h'.bn ∧ h'.bx (h.bn + 1) = some [.fn 18 [] [.ptr bf 0]] ∧ (∃ cs, h'.bx (h.bn + 2) = some cs ∧ cs.length = 16) ∧ h'.bx (h.bn + 4) = some (encCtlg x) ∧
    ∃ (B : List Int) (sk : RS), h'.bx (h.bn + 3) = some ((lay x.classes.length B).map (AV.int .i64)) ∧ B.length = k ∧ RTo h b h' sk ∧ Got (Rd.rep (rdCount 255) k) s B sk
  have rsl : ∀ {h' : H} {sk : RS} (o : Option LoopA), RTo h b h' sk → RTo h b (h'.setLoop h.ln o) sk := fun {h' sk} o a => ⟨⟨a.keep.bn, a.keep.bx, a.keep.tn, a.keep.tk, a.keep.ln, fun l hl => by have := a.keep.lp l hl; simp [show ¬ l = h.ln by omega]; exact this, a.keep.mn, a.keep.mp⟩, ⟨a.is.blt, a.is.bx, a.is.bd⟩⟩
  refine .rngf (Z := fun _ h1 => J (x.classes.length * x.classes.length) h1) (F := 46) (first := []) (caps := [.ptr (h.bn + 4) 0]) rfl (by simpa using s9) (pairs1_ok x n4 J (fun k h' ⟨_, _, q1, _, _, q2, _⟩ => ⟨by omega, q2⟩) ?_ ?_) ?_ ?_
  · rintro c d h' hc hd ⟨j1, j2, j3, j4, ⟨cs, j5, j5'⟩, j6, B, sk, j7, j8, j9, j10⟩ K hK
    rw [e6]
    refine callQ_y (q := q0) j1 j2 rfl ?_
    have k6 := rsl (some ⟨S, [10, 11], c17_x7, c17_y8, .busy, none⟩) j9
    have hfb : (h'.setLoop h.ln (some ⟨S, [10, 11], c17_x7, c17_y8, .busy, none⟩)).bx bf = some [.ptr b 0] := by simp; rw [j9.keep.bx bf hbf0 hne]; exact hbf
    have hg := get1_rd k6.is (by simp; omega) hfb c d
    have gg := Got.runS (rdCount 255) 0 sk
    have k7 := k6.trans hg.to
    generalize hv : runS (rdCount 255) 0 sk = vv at hg gg k7
    obtain ⟨v, s'⟩ := vv
    simp only at hg gg k7
    have hst := lay_stepM n4 B v hc hd j8
    have hl := lay_len x.classes.length B
    have z1 : ¬ h.bn + 1 = b := by omega
    have z3 : ¬ h.bn + 3 = b := by omega
    simp -implicitDefEqProofs [slotsP, j1, j2, q0]
    refine run_dreg c17_d6 ?_
    simp -implicitDefEqProofs [s3, j4, show h.bn + 1 < h'.bn by omega]
    refine callD_s hg.call (by simp) ?_
    simp -implicitDefEqProofs [s3, s5, j1, j4, j7, z3, show (c : Int) < 4 by omega, show (d : Int) < 4 by omega, hst, hl, show h.bn + 3 < h'.bn by omega, show h.bn + 1 < h'.bn by omega, show c * 4 + d + 1 ≤ 16 by omega, roundQ]
    refine hK _ ⟨by simpa using j1, by simp [q0], by simp; omega, by simp [j4, z1], ⟨cs, by simp [j5, show ¬ h.bn + 2 = b by omega], j5'⟩, by simp [j6, show ¬ h.bn + 4 = b by omega], B ++ [v], s', by simp, by simp [j8], ?_, j10.bind (gg.bind (Got.pure _ _))⟩
    exact rsl _ (k7.so (b' := h.bn + 3) (by omega) hb _)
  · refine ⟨by simp [e6], by simp [e6, q0], by simp [e5], by simpa using e1, by simpa using e2, by simpa using e4, [], s, by simpa using e3, rfl, ?_, Got.pure _ _⟩
    refine ⟨⟨by simpa using k5.keep.bn, k5.keep.bx, k5.keep.tn, k5.keep.tk, by simp [e6], fun l hl => by simp [e6, show ¬ l = h.ln by omega]; exact k5.keep.lp l hl, k5.keep.mn, k5.keep.mp⟩, ⟨k5.is.blt, k5.is.bx, k5.is.bd⟩⟩
  · rintro v h2 ⟨j1, j2, _⟩
    rw [e6]
    exact ⟨j1, _, j2, by simp [q0]⟩
  · rintro v h2 q ⟨j1, j2, j3, j4, ⟨cs, j5, j5'⟩, j6, B, sk, j7, j8, j9, j10⟩ hq
    rw [e6] at hq ⊢
    rw [j2] at hq
    cases hq
    have hl := lay_len x.classes.length B
    have k8 := rsl none j9
    have tl16 : List.take 16 ((lay x.classes.length B).map (AV.int .i64)) = (lay x.classes.length B).map (AV.int .i64) := List.take_of_length_le (by simp [hl])
    simp -implicitDefEqProofs [pendK, q0, s4, s5, j5, j5', j7, hl, tl16, show h.bn + 3 < h2.bn by omega, show h.bn + 2 < h2.bn by omega]
    exact ⟨B, rfl, sk, k8.so (b' := h.bn + 2) (by omega) hb _, j10⟩
end Go.Proofs

/- The program's reader of catalogues. -/
namespace Go.Proofs
open Go Go.RowKit Go.Am

def zer16 : List AV := [.int .i64 0, .int .i64 0, .int .i64 0, .int .i64 0, .int .i64 0, .int .i64 0, .int .i64 0, .int .i64 0, .int .i64 0, .int .i64 0, .int .i64 0, .int .i64 0, .int .i64 0, .int .i64 0, .int .i64 0, .int .i64 0]
theorem zer16_eq : (List.replicate 16 (0 : Int)).map (AV.int .i64) = zer16 := rfl

set_option maxHeartbeats 2000000 in
set_option maxRecDepth 4000 in
theorem catGet_rd {h : H} {b : Nat} {s : RS} (hr : RIs h b s) : RdX 6 [.ptr b 0] h b (catRV s) (catRS s) := by
  refine RdX.mk' hr (catRS_bd hr.bd) (pure_catRV s) (CallP.run hb6 ok6 (by simp) ?_)
  have hb := hr.blt
  have z0 : ¬ h.bn = b := by omega
  have z1 : ¬ h.bn + 1 = b := by omega
  have z2 : ¬ h.bn + 2 = b := by omega
  have y0 : ¬ b = h.bn := by omega
  have y1 : ¬ b = h.bn + 1 := by omega
  have y2 : ¬ b = h.bn + 2 := by omega
  have k0 := (((RTo.refl hr).al [.ptr b 0]).al (.sl .full [] :: zer16)).al (.sl .full [] :: zer16)
  rw [zer16] at k0
  simp -implicitDefEqProofs []
  have hn := count_rd k0.is (most := 4) (by simp [inI])
  refine callQ_s hn.call (by simp) ?_
  have q := hn.to
  have g := Got.runS (rdCount 4) 0 s
  have hin := rdCount_in (most := 4) (by simp [inI]) s
  clear hn
  generalize runS (rdCount 4) 0 s = x at q g hin ⊢
  obtain ⟨n, s1⟩ := x
  simp only at q g hin
  obtain ⟨N, rfl⟩ := Int.eq_ofNat_of_zero_le hin.1
  have hN : N ≤ 4 := by omega
  have k1 := k0.trans q
  simp -implicitDefEqProofs []
  refine run_loop (fun m S h1 => ∃ (j : Nat) (sj : RS) (L : List Cls) (t : Tok), m = N - j ∧ j ≤ N ∧ S 1 = .ptr h.bn 0 ∧ S 2 = .ptr (h.bn + 1) 0 ∧ S 4 = .ptr (h.bn + 2) 0 ∧ S 8 = .int .i64 N ∧ S 9 = .int .i64 j ∧ RTo h b h1 sj ∧ Got (Rd.rep rdClsM j) s1 L sj ∧ L.length = j ∧
    h1.bx h.bn = some [.ptr b 0] ∧ h1.bx (h.bn + 1) = some (.sl .full [] :: zer16) ∧ h1.bx (h.bn + 2) = some (.sl t (L.map encCls) :: zer16) ∧ h.bn + 2 < h1.bn ∧ TLive h1 t j ∧ TNew h t) ?_ N ?_
  rotate_left
  · exact ⟨0, s1, [], .full, rfl, Nat.zero_le _, by simp, by simp, by simp, by simp, by simp, k1, Got.pure _ _, rfl, by simp [z0], by simp [z1, zer16], by simp [z2, zer16], by simp, trivial, TNew.full _⟩
  clear k1 k0 q
  rintro m S h1 ⟨j, sj, L, t, hm, hj, t1, t2, t4, t8, t9, hto, hgot, hlen, b0, b1, b2, nb, hlive, hnew⟩ ih
  have w0 : h.bn < h1.bn := by omega
  have w1 : h.bn + 1 < h1.bn := by omega
  have hb1 : b < h1.bn := by omega
  have l16 : zer16.length = 16 := rfl
  by_cases hlt : j < N
  · have gc := classGet_rd hto.is
    have q1 := gc.to
    obtain ⟨ok, hv⟩ := clsRV_M sj
    have g1 := Got.runS rdClsM cls0 sj
    rw [clsRS_M] at q1
    generalize hc : (runS rdClsM cls0 sj).1 = c at hv g1
    generalize hs' : (runS rdClsM cls0 sj).2 = s' at q1 g1
    have lc : (encCls c).length = 5 := rfl
    have tc : List.take 5 (encCls c) = encCls c := rfl
    have x0 : ¬ h.bn = h1.bn := by omega
    have x2 : ¬ h.bn + 2 = h1.bn := by omega
    have x1 : ¬ h.bn + 1 = h1.bn := by omega
    have x3 : ¬ h1.bn = b := by omega
    have x4 : h.bn + 2 < h1.bn + 1 := by omega
    have k2 := ((hto.trans q1).al [.str ⟨#[]⟩, .int .i64 0, .sl .full [], .sl .full [], .bool false]).so (b' := h1.bn) (by omega) hb (encCls c)
    simp -implicitDefEqProofs [t1, t8, t9, hlt, b0, w0]
    refine callQ_s gc.call (by simp) ?_
    rw [hv, clsRS_M, hs']
    simp -implicitDefEqProofs [lc, tc, t4, b2, x2, z2, x4, l16]
    refine appQ_tok (t := t) (es := L.map encCls) (es2 := [encCls c]) (by simpa [hlen] using hlive) (fun e he => by obtain ⟨p, _, rfl⟩ := List.mem_map.1 he; rfl) (by simp [srcA, lc]) (by simp [hlen]; omega) fun ta h3 p1 p2 p3 p4 => ?_
    have e2 : h3.bx (h.bn + 2) = some (.sl t (L.map encCls) :: zer16) := by rw [p3.bx _ (by simp; omega) (fun h => h)]; simp [x2, z2, b2]
    have e0 : h3.bx h.bn = some [.ptr b 0] := by rw [p3.bx _ (by simp; omega) (fun h => h)]; simp [x0, z0, b0]
    have e1 : h3.bx (h.bn + 1) = some (.sl .full [] :: zer16) := by rw [p3.bx _ (by simp; omega) (fun h => h)]; simp [x1, z1, b1]
    have n3 : h.bn + 2 < h3.bn := by rw [p4]; simp; omega
    have k3 := (k2.app hnew p3).so (b' := h.bn + 2) (by omega) hb (.sl ta (L.map encCls ++ [encCls c]) :: zer16)
    have lta : TLive h3 ta (j + 1) := by simpa [hlen] using p1
    simp -implicitDefEqProofs [t4, t9, e2, n3, l16, inc_i64 hlt (show N ≤ _ by omega), -Int.natCast_add]
    exact ih (N - (j + 1)) _ _ (by omega) ⟨j + 1, s', L ++ [c], ta, rfl, by omega, by simp [t1], by simp [t2], by simp [t4], by simp [t8], by simp, k3, hgot.bind (g1.bind (Got.pure _ _)), by simp [hlen], by simp [e0], by simp [e1], by simp, by simpa using n3, by simpa using lta, hnew.next k2.keep p2⟩
  · obtain rfl : j = N := by omega
    have t17 : List.take 17 (AV.sl t (L.map encCls) :: zer16) = AV.sl t (L.map encCls) :: zer16 := rfl
    simp -implicitDefEqProofs [t1, t4, t8, t9, b2, nb, l16, t17]
    have hq := turnedQ_ok ⟨L, List.replicate 16 0⟩ (by simp) (by simp; omega) hto.is w0 b0 z0
    refine callQ_c hq (by simp [encCtlg, zer16, List.replicate]) ?_
    rintro r h5 ⟨B, s5, rfl, q5, g5⟩
    simp only [hlen] at g5 ⊢
    have e2 : h5.bx (h.bn + 2) = some (.sl t (L.map encCls) :: zer16) := by rw [q5.keep.bx _ nb z2]; exact b2
    have e0 : h5.bx h.bn = some [.ptr b 0] := by rw [q5.keep.bx _ w0 z0]; exact b0
    have e1 : h5.bx (h.bn + 1) = some (.sl .full [] :: zer16) := by rw [q5.keep.bx _ w1 z1]; exact b1
    have n5 : h.bn + 2 < h5.bn := Nat.lt_of_lt_of_le nb q5.keep.bn
    have n50 : h.bn < h5.bn := by omega
    have n51 : h.bn + 1 < h5.bn := by omega
    have ll := lay_len j B
    have d17 : List.drop 16 zer16 = [] := rfl
    have k5 := (hto.trans q5).so (b' := h.bn + 2) (by omega) hb (.sl t (L.map encCls) :: (lay j B).map (AV.int .i64))
    have hgc : Got rdCat s ⟨L, lay j B⟩ s5 := g.bind ((by rw [Int.toNat_natCast]; exact hgot : Got (Rd.rep rdClsM (j : Int).toNat) s1 L sj).bind ((by rw [Int.toNat_natCast]; exact g5 : Got (Rd.rep (rdCount 255) ((j : Int).toNat * (j : Int).toNat)) sj B s5).bind (by rw [Int.toNat_natCast]; exact Got.pure _ _)))
    simp -implicitDefEqProofs [t1, t4, e2, e0, n5, n50, l16, ll, d17]
    refine callQ_s (rOk_ok k5.is) (by simp) ?_
    have hend : ∀ (X : H) (s6 : RS), RTo h b X s6 → catR s = none → callQ Try.prog (.fn 15 [] []) [.ptr b 0, .int .i64 (-1)] X fun r h2 => RFin h b h2 (catRS s) ∧ h2.bn = X.bn ∧ h2.bx (h.bn + 1) = X.bx (h.bn + 1) := fun X s6 kx hcn => by
      refine callQ_r (count_rd (most := -1) kx.is (by simp [inI])).q (by simp) fun n s7 q7 g7 => ?_
      have hs7 : s7 = none := by
        have := g7
        unfold Got at this
        cases s6 with
        | none => exact this
        | some l => cases l <;> simpa [rdCount] using this
      subst hs7
      refine ⟨?_, rfl, by simp [z1]⟩
      have : catRS s = none := by simp [catRS, hcn]
      rw [this]
      exact (kx.trans q7).fin
    have hc0 : ∀ (c0 : catR s = none), catRV s = .tup [.agg (.sl .no [] :: zer16), .bool false] := fun c0 => by simp [catRV, c0, cat0, encCtlg, zer16, List.replicate]
    have t17z : List.take 17 (AV.sl .full [] :: zer16) = AV.sl .full [] :: zer16 := rfl
    have wz : List.map wk zer16 = zer16 := by simp [zer16]
    have x1 : ¬ h.bn + 1 = h.bn + 2 := by omega
    cases s5 with
    | none =>
      have hcn := catR_none hgc
      have hrv := hc0 hcn
      simp -implicitDefEqProofs [t1, e0, n50]
      refine callQ_mono (fun r h2 ⟨r1, r2, r3⟩ => ?_) (hend _ none k5 hcn)
      have n2 : h.bn + 1 < h2.bn := by rw [r2]; exact n51
      have b2' : h2.bx (h.bn + 1) = some (.sl .full [] :: zer16) := by rw [r3]; simp [e1]
      simp -implicitDefEqProofs [t2, n2, b2', hrv, l16]
      exact ⟨rfl, r1.so (by omega) hb _⟩
    | some l =>
      have hcs := catR_some hgc
      have hwf := Got.all rdCat_all hr.bd hgc
      have tl17 : List.take 17 (AV.sl t (L.map encCls) :: (lay j B).map (AV.int .i64)) = AV.sl t (L.map encCls) :: (lay j B).map (AV.int .i64) := List.take_of_length_le (by simp [ll])
      simp -implicitDefEqProofs [t4, n5, ll, tl17]
      refine callQ_p (catMayP_ok _ hwf) (by simp [encCtlg]) ?_
      cases hcm : catMay ⟨L, lay j B⟩
      · have hcn : catR s = none := by rw [hcs, hcm]; rfl
        have hrv := hc0 hcn
        simp -implicitDefEqProofs [t1, e0, n50]
        refine callQ_mono (fun r h2 ⟨r1, r2, r3⟩ => ?_) (hend _ (some l) k5 hcn)
        have n2 : h.bn + 1 < h2.bn := by rw [r2]; exact n51
        have b2' : h2.bx (h.bn + 1) = some (.sl .full [] :: zer16) := by rw [r3]; simp [e1]
        simp -implicitDefEqProofs [t2, n2, b2', hrv, l16]
        exact ⟨rfl, r1.so (by omega) hb _⟩
      · have hcy : catR s = some (⟨L, lay j B⟩, l) := by rw [hcs, hcm]; rfl
        have hrv : catRV s = .tup [.agg (encCtlg ⟨L, lay j B⟩), .bool true] := by simp [catRV, hcy]
        have hrs : catRS s = some l := by simp [catRS, hcy]
        simp -implicitDefEqProofs [t2, t4, n5, n51, e1, ll, tl17, l16, hrv, hrs]
        exact ⟨rfl, (k5.so (by omega) hb _).fin⟩
end Go.Proofs

/- The document's reader: items, templates, programs, footprints. -/
namespace Go.Proofs
open Go Go.RowKit Go.Am

def item00 : Item := ⟨0, 0, 0, 0, ⟨#[]⟩, []⟩
theorem item_rd {h : H} {b : Nat} {s : RS} (hr : RIs h b s) (kind : Int) {most : Int} (hm : inI most) : RdX 19 [.ptr b 0, .int .i64 kind, .int .i64 most] h b (.agg (encI (runS (refRead kind most) item00 s).1)) (runS (refRead kind most) item00 s).2 := by
  have hbd : Bd (runS (refRead kind most) item00 s).2 := by
    intro l' e
    cases s with
    | none => cases e
    | some l =>
      cases hq : refRead kind most l with
      | none => simp [runS, hq] at e
      | some x =>
        simp [runS, hq] at e
        subst e
        exact (refRead_bd hr.bd hq).1 _ rfl
  refine RdX.mk' hr hbd (.agg (pure_encI _)) (CallP.run hb19 ok19 (by simp) ?_)
  have hb := hr.blt
  have hx := hr.bx
  have z0 : ¬ b = h.bn := by omega
  have z1 : ¬ h.bn = b := by omega
  have z2 : b < h.bn + 1 := by omega
  have z3 : b < h.bn + 1 + 1 := by omega
  have z4 : ¬ b = h.bn + 1 := by omega
  have z5 : ¬ h.bn + 1 = b := by omega
  cases s with
  | none =>
    rw [encRS] at hx
    simp -implicitDefEqProofs [hx, z0, z2, runS, encI, item00]
    refine ⟨?_, _, ?_, WkL.refl _⟩
    · exact (HF.alloc _ _ _ _).trans' (HF.set (B := (· = h.bn)) _ rfl) (fun x hx e => by have e : x = h.bn := e; omega) (fun _ _ h => h)
    · simp [z0, hx, encRS]
  | some l =>
    rw [encRS] at hx
    simp -implicitDefEqProofs [hx, z0, z2]
    refine callQ_p (refRead_ok hr.bd kind hm) (by simp) ?_
    cases hq : refRead kind most l with
    | none =>
      simp -implicitDefEqProofs [encRead, hx, z0, z1, z3, z4, runS, encI, item00, hq]
      refine RFin.so (RFin.bad (v := encW l) ?_ (by simp)) (Nat.le_refl _) hb _
      refine HF.trans ?_ (HF.set (B := (· = b)) _ rfl)
      exact ((HF.alloc _ _ _ _).trans (HF.alloc _ _ _ _)).trans' (HF.set (B := (· = h.bn + 1)) _ rfl) (fun x hx e => by have e : x = h.bn + 1 := e; omega) (fun _ _ h => h)
    | some x =>
      obtain ⟨y, l'⟩ := x
      simp -implicitDefEqProofs [encRead, hx, z0, z1, z3, z4, z5, runS, encI, hq]
      refine RFin.so (RFin.ok ?_ (by simp [encRS])) (Nat.le_refl _) hb _
      exact ((HF.alloc _ _ _ _).trans (HF.alloc _ _ _ _)).trans' (HF.set (B := (· = h.bn + 1)) _ rfl) (fun x hx e => by have e : x = h.bn + 1 := e; omega) (fun _ _ h => h)

theorem runS_map {α β : Type} {p : Rd α} {q : Rd β} {d : α} {d' : β} {f : α → β} (g : β → α) (hd : g d' = d) (hg : ∀ a, g (f a) = a) (hq : ∀ l, q l = (p l).map fun x => (f x.1, x.2)) (s : RS) : g (runS q d' s).1 = (runS p d s).1 ∧ (runS q d' s).2 = (runS p d s).2 := by
  unfold runS
  cases s with
  | none => exact ⟨hd, rfl⟩
  | some l =>
    simp only [Option.bind_some, hq]
    cases p l with
    | none => exact ⟨hd, rfl⟩
    | some x => exact ⟨hg _, rfl⟩
theorem item_count (most : Int) (s : RS) : (runS (refRead 0 most) item00 s).1.n = (runS (rdCount most) 0 s).1 ∧ (runS (refRead 0 most) item00 s).2 = (runS (rdCount most) 0 s).2 :=
  runS_map (f := fun n => (⟨0, n, most, 0, ⟨#[]⟩, []⟩ : Item)) (·.n) rfl (fun _ => rfl) (fun l => by simp [refRead]) s
theorem item_signed (s : RS) : (runS (refRead 1 0) item00 s).1.x = (runS rdSigned 0 s).1 ∧ (runS (refRead 1 0) item00 s).2 = (runS rdSigned 0 s).2 :=
  runS_map (f := fun n => (⟨1, 0, 0, n, ⟨#[]⟩, []⟩ : Item)) (·.x) rfl (fun _ => rfl) (fun l => by simp [refRead]) s
theorem item_flag (s : RS) : decide ((runS (refRead 2 0) item00 s).1.n = 1) = (runS rdFlag false s).1 ∧ (runS (refRead 2 0) item00 s).2 = (runS rdFlag false s).2 := by
  have h := runS_map (p := rdCount 1) (q := refRead 2 0) (d := 0) (d' := item00) (f := fun n => (⟨2, n, 0, 0, ⟨#[]⟩, []⟩ : Item)) (·.n) rfl (fun _ => rfl) (fun l => by simp [refRead]) s
  have h1 : (runS (refRead 2 0) item00 s).1.n = (runS (rdCount 1) 0 s).1 := h.1
  have h2 : ((runS rdFlag false s).1 = true ↔ (runS (rdCount 1) 0 s).1 = 1) ∧ (runS rdFlag false s).2 = (runS (rdCount 1) 0 s).2 := by
    unfold runS rdFlag
    cases s with
    | none => simp
    | some l =>
      simp only [Option.bind_some]
      cases hq : rdCount 1 l <;> simp
  refine ⟨?_, h.2.trans h2.2.symm⟩
  rw [Bool.eq_iff_iff, decide_eq_true_eq, h1]
  exact h2.1.symm
theorem item_text (s : RS) : (runS (refRead 3 0) item00 s).1.s = (runS rdText ⟨#[]⟩ s).1 ∧ (runS (refRead 3 0) item00 s).2 = (runS rdText ⟨#[]⟩ s).2 := by
  have h := runS_map (p := rdTextW) (q := refRead 3 0) (d := (⟨#[]⟩, [])) (d' := item00) (f := fun n => (⟨3, 0, 0, 0, n.1, n.2⟩ : Item)) (fun y => (y.s, y.l)) rfl (fun _ => rfl) (fun l => by simp [refRead]) s
  have h1 : (runS (refRead 3 0) item00 s).1.s = (runS rdTextW (⟨#[]⟩, []) s).1.1 := congrArg Prod.fst h.1
  rw [h1, h.2]
  unfold runS
  cases s with
  | none => exact ⟨rfl, rfl⟩
  | some l =>
    simp only [Option.bind_some, rdText_W]
    cases rdTextW l with
    | none => exact ⟨rfl, rfl⟩
    | some x => exact ⟨rfl, rfl⟩

/-- An item's call: what is taken of it, as a piece of reading. -/
theorem callQ_item {α : Type} {h : H} {b : Nat} {s : RS} {kind most : Int} {K : AV → H → Prop} (p : Rd α) (d : α) (g : Item → α) {first caps args : List AV} (hm : inI most) (hr : RIs h b s)
    (hg : g (runS (refRead kind most) item00 s).1 = (runS p d s).1 ∧ (runS (refRead kind most) item00 s).2 = (runS p d s).2) (ha : (first ++ args ++ caps).map wk = [.ptr b 0, .int .i64 kind, .int .i64 most])
    (hk : ∀ (y : Item) (s' : RS), g y = (runS p d s).1 → s' = (runS p d s).2 → RTo h b (h.set b (encRS s')) s' → Got p s (g y) s' → K (.agg (encI y)) (h.set b (encRS s'))) : callQ Try.prog (.fn 19 first caps) args h K := by
  have hx := item_rd hr kind hm
  refine callQ_s hx.call ha (hk _ _ hg.1 hg.2 hx.to ?_)
  have := Got.runS p d s
  rw [← hg.1, ← hg.2] at this
  exact this
end Go.Proofs

/- The document's reader: templates, programs, footprints. -/
namespace Go.Proofs
open Go Go.RowKit Go.Am

theorem store_bad {s : RS} : List.take 1 (encRS s) ++ AV.bool true :: List.drop 2 (encRS s) = [(encRS s)[0]'(by cases s <;> simp [encRS]), .bool true] := by cases s <;> rfl

theorem refKey_rd {h : H} {b : Nat} {s : RS} (hr : RIs h b s) : RdQ 59 [.ptr b 0] h b s rdKey (fun k => .agg (encKeyT k)) := by
  refine RdQ.mk' hr (fun k => .agg (pures_cons (.int _ _) (pures1 (.int _ _)))) (CallP.run hb59 ok59 (by simp) ?_)
  have hb := hr.blt
  have z : ¬ b = h.bn := by omega
  have z' : ¬ h.bn = b := by omega
  have z2 : b < h.bn + 1 := by omega
  simp -implicitDefEqProofs []
  refine callQ_item rdSigned 0 (·.x) (by simp [inI]) (hr.alloc _) (item_signed s) (by simp) fun y1 s1 e1 _ q1 g1 => ?_
  simp -implicitDefEqProofs [encI]
  refine callQ_item (rdCount 999) 0 (·.n) (by simp [inI]) q1.is (item_count 999 s1) (by simp) fun y2 s2 e2 _ q2 g2 => ?_
  have k2 := (RTo.al (RTo.refl hr) [.int .i64 0, .int .i64 0]).trans (q1.trans q2)
  by_cases h1 : y1.x < -1 ∨ 255 < y1.x
  · by_cases h2 : y1.x < -1
    focus
      simp -implicitDefEqProofs [encI, h2, z', z2]
    rotate_left
    focus
      have h3 : 255 < y1.x := h1.resolve_left h2
      simp -implicitDefEqProofs [encI, h2, h3, z', z2]
    all_goals
      cases s2 with
      | none =>
        simp -implicitDefEqProofs [encRS]
        refine ⟨⟨y1.x, y2.n⟩, rfl, none, RFin.so (RFin.bad (v := .any1) ((k2.keep).trans (HF.set _ rfl)) (by simp)) (Nat.le_refl _) hb _, (fun l h => by cases h), ?_⟩
        exact g1.bind (by rw [if_pos h1]; exact Got.fail _ _)
      | some l =>
        simp -implicitDefEqProofs [encRS]
        refine ⟨⟨y1.x, y2.n⟩, rfl, none, RFin.so (RFin.bad (v := encW l) ((k2.keep).trans (HF.set _ rfl)) (by simp)) (Nat.le_refl _) hb _, (fun l h => by cases h), ?_⟩
        exact g1.bind (by rw [if_pos h1]; exact Got.fail _ _)
  have h2 : ¬ y1.x < -1 := fun h => h1 (.inl h)
  have h3 : ¬ 255 < y1.x := fun h => h1 (.inr h)
  simp -implicitDefEqProofs [encI, h2, h3, z']
  refine ⟨⟨y1.x, y2.n⟩, rfl, s2, (k2.so (Nat.le_refl _) hb _).fin, k2.is.bd, ?_⟩
  exact g1.bind (by rw [if_neg h1]; exact g2.bind (Got.pure _ _))
end Go.Proofs

/- The document's reader of programs and footprints, whole. -/
namespace Go.Proofs
open Go Go.RowKit Go.Am

theorem item_bad {h : H} {b : Nat} {v : AV} (hb : b < h.bn) (hx : h.bx b = some [v, .bool true]) (kind most : Int) : SCall Try.prog 19 [.ptr b 0, .int .i64 kind, .int .i64 most] h (.agg (encI item00)) h := by
  refine SCall.ro (CallP.run hb19 ok19 (by simp) ?_) (.agg (pure_encI _))
  have z0 : ¬ b = h.bn := by omega
  have z2 : b < h.bn + 1 := by omega
  simp -implicitDefEqProofs [hx, z0, z2, encI, item00]
  exact (HF.alloc _ _ _ _).trans' (HF.set (B := (· = h.bn)) _ rfl) (fun x hx e => by have e : x = h.bn := e; omega) (fun _ _ h => h)
theorem callQ_ib {h : H} {b : Nat} {v : AV} {kind most : Int} {K : AV → H → Prop} {first caps args : List AV} (hb : b < h.bn) (hx : h.bx b = some [v, .bool true]) (ha : (first ++ args ++ caps).map wk = [.ptr b 0, .int .i64 kind, .int .i64 most])
    (hk : K (.agg (encI item00)) h) : callQ Try.prog (.fn 19 first caps) args h K := callQ_s (item_bad hb hx kind most) ha hk
/-- A loop of reading that isn't right any more. -/
structure BLoop {α : Type} (h : H) (b : Nat) (s1 : RS) (p : Rd α) (j : Nat) (h1 : H) (v : AV) (L : List α) (t : Tok) : Prop where
  keep : HF h h1 (· = b) (fun _ => False)
  blt : b < h1.bn
  bx : h1.bx b = some [v, .bool true]
  got : ∀ L', Got (Rd.rep p j) s1 L' none
  len : L.length = j
  live : TLive h1 t j
  new : TNew h t
theorem len_encRS {s : RS} : (encRS s).length = 2 := by cases s <;> rfl

set_option maxHeartbeats 2000000 in
theorem refProgGet_rd {h : H} {b : Nat} {s : RS} (hr : RIs h b s) : RdS 38 [.ptr b 0] h b s rdProg [] (fun l => .sl .no (l.map encInst)) := by
  refine RdS.of hr rdProg_ok (fun l => elOK_Inst.pureL l) (CallP.run hb38 ok38 (by simp) ?_)
  have hb := hr.blt
  simp -implicitDefEqProofs []
  refine callQ_item (rdCount 8) 0 (·.n) (by simp [inI]) hr (item_count 8 s) (by simp) fun y0 s1 e0 e0' q g => ?_
  have hin := rdCount_in (most := 8) (by simp [inI]) s
  rw [← e0] at hin
  obtain ⟨N, hNe⟩ := Int.eq_ofNat_of_zero_le hin.1
  have hN : N ≤ 8 := by omega
  rw [hNe] at g
  simp -implicitDefEqProofs [encI, hNe]
  refine run_loop (fun m S h1 => ∃ (j : Nat) (sj : RS) (L : List Inst) (t : Tok), m = N - j ∧ j ≤ N ∧ S 0 = .ptr b 0 ∧ S 4 = .sl t (L.map encInst) ∧ S 3 = .int .i64 N ∧ S 5 = .int .i64 j ∧ RLoop h b s1 rdInst j h1 sj L t) ?_ N ?_
  rotate_left
  · exact ⟨0, s1, [], .full, rfl, Nat.zero_le _, by simp, by simp, by simp, by simp, RLoop.start q⟩
  rintro m S h1 ⟨j, sj, L, t, hm, hj, t0, t4, t3, t5, hL⟩ ih
  have hbn : h.bn ≤ h1.bn := hL.to.keep.bn
  have hb1 : b < h1.bn := by omega
  have z0 : ¬ b = h1.bn := by omega
  have z1 : ¬ h1.bn = b := by omega
  by_cases hlt : j < N
  · have k0 := RTo.al (RTo.refl hL.to.is) [.int .i64 0, .int .i64 0, .int .i64 0, .int .i64 0, .int .i64 0, .int .i64 0, .int .i64 0, .int .i64 0, .int .i64 0]
    simp -implicitDefEqProofs [t0, t3, t5, hlt]
    refine callQ_item (rdCount 255) 0 (·.n) (by simp [inI]) k0.is (item_count 255 sj) (by simp) fun v1 u1 _ _ q1 g1 => ?_
    have k1 := RTo.so (k0.trans q1) (b' := h1.bn) (Nat.le_refl _) hb1 [.int .i64 v1.n, .int .i64 0, .int .i64 0, .int .i64 0, .int .i64 0, .int .i64 0, .int .i64 0, .int .i64 0, .int .i64 0]
    simp -implicitDefEqProofs [t0, z1, encI]
    refine callQ_item (rdCount 255) 0 (·.n) (by simp [inI]) k1.is (item_count 255 u1) (by simp) fun v2 u2 _ _ q2 g2 => ?_
    have k2 := RTo.so (k1.trans q2) (b' := h1.bn) (Nat.le_refl _) hb1 [.int .i64 v1.n, .int .i64 v2.n, .int .i64 0, .int .i64 0, .int .i64 0, .int .i64 0, .int .i64 0, .int .i64 0, .int .i64 0]
    simp -implicitDefEqProofs [t0, z1, encI]
    refine callQ_item (rdCount 255) 0 (·.n) (by simp [inI]) k2.is (item_count 255 u2) (by simp) fun v3 u3 _ _ q3 g3 => ?_
    have k3 := RTo.so (k2.trans q3) (b' := h1.bn) (Nat.le_refl _) hb1 [.int .i64 v1.n, .int .i64 v2.n, .int .i64 v3.n, .int .i64 0, .int .i64 0, .int .i64 0, .int .i64 0, .int .i64 0, .int .i64 0]
    simp -implicitDefEqProofs [t0, z1, encI]
    refine callQ_item (rdCount 255) 0 (·.n) (by simp [inI]) k3.is (item_count 255 u3) (by simp) fun v4 u4 _ _ q4 g4 => ?_
    have k4 := RTo.so (k3.trans q4) (b' := h1.bn) (Nat.le_refl _) hb1 [.int .i64 v1.n, .int .i64 v2.n, .int .i64 v3.n, .int .i64 v4.n, .int .i64 0, .int .i64 0, .int .i64 0, .int .i64 0, .int .i64 0]
    simp -implicitDefEqProofs [t0, z1, encI]
    refine callQ_r (refKey_rd k4.is) (by simp) fun v5 u5 q5 g5 => ?_
    have k5 := RTo.so (k4.trans q5) (b' := h1.bn) (Nat.le_refl _) hb1 [.int .i64 v1.n, .int .i64 v2.n, .int .i64 v3.n, .int .i64 v4.n, .int .i64 v5.arg, .int .i64 v5.base, .int .i64 0, .int .i64 0, .int .i64 0]
    simp -implicitDefEqProofs [t0, z1, encKeyT]
    refine callQ_r (refKey_rd k5.is) (by simp) fun v6 u6 q6 g6 => ?_
    have k6 := RTo.so (k5.trans q6) (b' := h1.bn) (Nat.le_refl _) hb1 [.int .i64 v1.n, .int .i64 v2.n, .int .i64 v3.n, .int .i64 v4.n, .int .i64 v5.arg, .int .i64 v5.base, .int .i64 v6.arg, .int .i64 v6.base, .int .i64 0]
    simp -implicitDefEqProofs [t0, z1, encKeyT]
    refine callQ_item rdSigned 0 (·.x) (by simp [inI]) k6.is (item_signed u6) (by simp) fun v7 u7 _ _ q7 g7 => ?_
    have k7 := RTo.so (k6.trans q7) (b' := h1.bn) (Nat.le_refl _) hb1 [.int .i64 v1.n, .int .i64 v2.n, .int .i64 v3.n, .int .i64 v4.n, .int .i64 v5.arg, .int .i64 v5.base, .int .i64 v6.arg, .int .i64 v6.base, .int .i64 v7.x]
    simp -implicitDefEqProofs [z1, encI, t4]
    refine appQ_tok (t := t) (es := L.map encInst) (es2 := [encInst ⟨v1.n, v2.n, v3.n, v4.n, v5, v6, v7.x⟩]) (by simpa [hL.len] using hL.live) (by simp [encInst]) (by simp [srcA, encInst]) (by simp [hL.len]; omega) fun t' h3 p1 p2 p3 p4 => ?_
    have hg : Got rdInst sj ⟨v1.n, v2.n, v3.n, v4.n, v5, v6, v7.x⟩ u7 := g1.bind (g2.bind (g3.bind (g4.bind (g5.bind (g6.bind (g7.bind (Got.pure _ _)))))))
    have hl2 := hL.next hg (h2 := _) (h3 := h3) (t' := t') (hL.to.trans k7) (by simpa [hL.len] using p1) p2 p3
    simp -implicitDefEqProofs [t5, inc_i64 hlt (show N ≤ _ by omega), -Int.natCast_add]
    exact ih (N - (j + 1)) _ _ (by omega) ⟨j + 1, u7, _, t', rfl, by omega, by simp [t0], by simp, by simp [t3], by simp, hl2⟩
  · obtain rfl : j = N := by omega
    have hx := hL.to.is.bx
    have hlt2 := hL.to.is.blt
    have hgp : Got rdProg s L sj := g.bind (by rw [Int.toNat_natCast]; exact hL.got)
    simp -implicitDefEqProofs [t0, t3, t5, hx, hlt2, len_encRS]
    cases sj with
    | none =>
      simp -implicitDefEqProofs [encRS]
      exact ⟨none, hL.to.fin, Got.any hgp _⟩
    | some l =>
      simp -implicitDefEqProofs [encRS, t4]
      exact ⟨L, rfl, some l, hL.to.fin, hgp, (fun h => by cases h)⟩

set_option maxHeartbeats 2000000 in
theorem refFootGet_rd {h : H} {b : Nat} {s : RS} (hr : RIs h b s) : RdS 39 [.ptr b 0] h b s rdFoot [] (fun l => .sl .no (l.map encSpanT)) := by
  refine RdS.of hr rdFoot_ok (fun l => elOK_SpanT.pureL l) (CallP.run hb39 ok39 (by simp) ?_)
  have hb := hr.blt
  simp -implicitDefEqProofs []
  refine callQ_item (rdCount 4) 0 (·.n) (by simp [inI]) hr (item_count 4 s) (by simp) fun y0 s1 e0 e0' q g => ?_
  have hin := rdCount_in (most := 4) (by simp [inI]) s
  rw [← e0] at hin
  obtain ⟨N, hNe⟩ := Int.eq_ofNat_of_zero_le hin.1
  have hN : N ≤ 4 := by omega
  rw [hNe] at g
  simp -implicitDefEqProofs [encI, hNe]
  refine run_loop (fun m S h1 => ∃ (j : Nat) (sj : RS) (L : List SpanT) (t : Tok), m = N - j ∧ j ≤ N ∧ S 0 = .ptr b 0 ∧ S 4 = .sl t (L.map encSpanT) ∧ S 3 = .int .i64 N ∧ S 5 = .int .i64 j ∧ (RLoop h b s1 rdSpanT j h1 sj L t ∨ ∃ v, BLoop h b s1 rdSpanT j h1 v L t)) ?_ N ?_
  rotate_left
  · exact ⟨0, s1, [], .full, rfl, Nat.zero_le _, by simp, by simp, by simp, by simp, Or.inl (RLoop.start q)⟩
  rintro m S h1 ⟨j, sj, L, t, hm, hj, t0, t4, t3, t5, hL | ⟨v, hB⟩⟩ ih
  rotate_left
  · have hb1 := hB.blt
    have hbx := hB.bx
    by_cases hlt : j < N
    · simp -implicitDefEqProofs [t0, t3, t5, hlt]
      refine callQ_ib hb1 hbx rfl ?_
      simp -implicitDefEqProofs [t0, encI, item00]
      refine callQ_ib hb1 hbx rfl ?_
      simp -implicitDefEqProofs [t0, encI, item00]
      refine callQ_ib hb1 hbx rfl ?_
      simp -implicitDefEqProofs [t0, encI, item00]
      refine callQ_ib hb1 hbx rfl ?_
      simp -implicitDefEqProofs [t0, encI, item00]
      refine callQ_ib hb1 hbx rfl ?_
      simp -implicitDefEqProofs [t4, encI, item00]
      refine appQ_tok (t := t) (es := L.map encSpanT) (es2 := [encSpanT ⟨⟨0, 0⟩, ⟨0, 0⟩, false⟩]) (by simpa [hB.len] using hB.live) (by simp [encSpanT]) (by simp [srcA, encSpanT]) (by simp [hB.len]; omega) fun t' h3 p1 p2 p3 p4 => ?_
      have hB2 : BLoop h b s1 rdSpanT (j + 1) h3 v (L ++ [⟨⟨0, 0⟩, ⟨0, 0⟩, false⟩]) t' := ⟨hB.keep.trans' p3 (fun _ _ h => h.elim) (fun i hi ho => hB.new i hi ho), by rw [p4]; exact hb1, (p3.bx b hb1 fun h => h).trans hbx, fun L' => (hB.got []).bind (show Got _ none L' none from rfl), by simp [hB.len], by simpa [hB.len] using p1, hB.new.next hB.keep p2⟩
      simp -implicitDefEqProofs [t5, inc_i64 hlt (show N ≤ _ by omega), -Int.natCast_add]
      exact ih (N - (j + 1)) _ _ (by omega) ⟨j + 1, none, _, t', rfl, by omega, by simp [t0], by simp, by simp [t3], by simp, Or.inr ⟨v, hB2⟩⟩
    · obtain rfl : j = N := by omega
      simp -implicitDefEqProofs [t0, t3, t5, hb1, hbx]
      exact ⟨none, RFin.bad hB.keep hbx, g.bind (by rw [Int.toNat_natCast]; exact hB.got _)⟩
  have hbn : h.bn ≤ h1.bn := hL.to.keep.bn
  have hb1 : b < h1.bn := by omega
  by_cases hlt : j < N
  · simp -implicitDefEqProofs [t0, t3, t5, hlt]
    refine callQ_item rdSigned 0 (·.x) (by simp [inI]) hL.to.is (item_signed sj) (by simp) fun v1 u1 _ _ q1 g1 => ?_
    simp -implicitDefEqProofs [encI, t0]
    refine callQ_item (rdCount 999) 0 (·.n) (by simp [inI]) q1.is (item_count 999 u1) (by simp) fun v2 u2 _ _ q2 g2 => ?_
    simp -implicitDefEqProofs [encI, t0]
    refine callQ_item rdSigned 0 (·.x) (by simp [inI]) q2.is (item_signed u2) (by simp) fun v3 u3 _ _ q3 g3 => ?_
    simp -implicitDefEqProofs [encI, t0]
    refine callQ_item (rdCount 999) 0 (·.n) (by simp [inI]) q3.is (item_count 999 u3) (by simp) fun v4 u4 _ _ q4 g4 => ?_
    have k4 := q1.trans (q2.trans (q3.trans q4))
    have hb4 := k4.is.blt
    have hx4 := k4.is.bx
    have gk1 : ¬ (v1.x < -1 ∨ 255 < v1.x) → Got rdKey sj ⟨v1.x, v2.n⟩ u2 := fun hn => g1.bind (by rw [if_neg hn]; exact g2.bind (Got.pure _ _))
    have gk2 : ¬ (v3.x < -1 ∨ 255 < v3.x) → Got rdKey u2 ⟨v3.x, v4.n⟩ u4 := fun hn => g3.bind (by rw [if_neg hn]; exact g4.bind (Got.pure _ _))
    have gb1 : (v1.x < -1 ∨ 255 < v1.x) → Got rdKey sj ⟨v1.x, v2.n⟩ none := fun hn => g1.bind (by rw [if_pos hn]; exact Got.fail _ _)
    have gb2 : (v3.x < -1 ∨ 255 < v3.x) → Got rdKey u2 ⟨v3.x, v4.n⟩ none := fun hn => g3.bind (by rw [if_pos hn]; exact Got.fail _ _)
    have gall : ((v1.x < -1 ∨ 255 < v1.x) ∨ (v3.x < -1 ∨ 255 < v3.x)) → ∀ a, Got rdSpanT sj a none := fun hor a => by
      refine Got.any (a := ⟨⟨v1.x, v2.n⟩, ⟨v3.x, v4.n⟩, false⟩) ?_ a
      have fl : Got rdFlag none false none := rfl
      by_cases c1 : v1.x < -1 ∨ 255 < v1.x
      · exact (gb1 c1).bind ((show Got rdKey none (⟨v3.x, v4.n⟩ : KeyT) none from rfl).bind (fl.bind (Got.pure _ _)))
      · exact (gk1 c1).bind ((gb2 (hor.resolve_left c1)).bind (fl.bind (Got.pure _ _)))
    by_cases hbad : (v1.x < -1 ∨ 255 < v1.x) ∨ (v3.x < -1 ∨ 255 < v3.x)
    · have gall := gall hbad
      obtain ⟨v0, hv0⟩ : ∃ v0, List.take 1 (encRS u4) ++ AV.bool true :: List.drop 2 (encRS u4) = [v0, .bool true] := by cases u4 <;> exact ⟨_, rfl⟩
      have hcase : (v1.x < -1) ∨ (¬ v1.x < -1 ∧ 255 < v1.x) ∨ (¬ v1.x < -1 ∧ ¬ 255 < v1.x ∧ v3.x < -1) ∨ (¬ v1.x < -1 ∧ ¬ 255 < v1.x ∧ ¬ v3.x < -1 ∧ 255 < v3.x) := by omega
      have hk5 : HF h1 ((((((h1.set b (encRS u1)).set b (encRS u2)).set b (encRS u3)).set b (encRS u4)).set b [v0, .bool true])) (· = b) (fun _ => False) := k4.keep.trans (HF.set _ rfl)
      rcases hcase with c1 | ⟨c1, c2⟩ | ⟨c1, c2, c3⟩ | ⟨c1, c2, c3, c4⟩
      focus
        simp -implicitDefEqProofs [encI, t0, c1, len_encRS, hb1, hv0]
      rotate_left
      focus
        simp -implicitDefEqProofs [encI, t0, c1, c2, len_encRS, hb1, hv0]
      rotate_left
      focus
        simp -implicitDefEqProofs [encI, t0, c1, c2, c3, len_encRS, hb1, hv0]
      rotate_left
      focus
        simp -implicitDefEqProofs [encI, t0, c1, c2, c3, c4, len_encRS, hb1, hv0]
      all_goals
        refine callQ_ib (v := v0) (by simpa using hb1) (by simp) rfl ?_
        simp -implicitDefEqProofs [t4, encI, item00]
        refine appQ_tok (t := t) (es := L.map encSpanT) (es2 := [encSpanT ⟨⟨v1.x, v2.n⟩, ⟨v3.x, v4.n⟩, false⟩]) (by simpa [hL.len] using hL.live) (by simp [encSpanT]) (by simp [srcA, encSpanT]) (by simp [hL.len]; omega) fun t' h3 p1 p2 p3 p4 => ?_
        have hB2 : BLoop h b s1 rdSpanT (j + 1) h3 v0 (L ++ [⟨⟨v1.x, v2.n⟩, ⟨v3.x, v4.n⟩, false⟩]) t' := ⟨(hL.to.keep.trans hk5).trans' p3 (fun _ _ h => h.elim) (fun i hi ho => hL.new i hi ho), by rw [p4]; simpa using hb1, by rw [p3.bx b (by simpa using hb1) (fun h => h)]; simp, fun L' => hL.got.bind ((gall ⟨⟨0, 0⟩, ⟨0, 0⟩, false⟩).bind (show Got _ none L' none from rfl)), by simp [hL.len], by simpa [hL.len] using p1, hL.new.next (hL.to.keep.trans hk5) p2⟩
        simp -implicitDefEqProofs [t5, inc_i64 hlt (show N ≤ _ by omega), -Int.natCast_add]
        exact ih (N - (j + 1)) _ _ (by omega) ⟨j + 1, none, _, t', rfl, by omega, by simp [t0], by simp, by simp [t3], by simp, Or.inr ⟨v0, hB2⟩⟩
    · have c1 : ¬ v1.x < -1 := fun h => hbad (.inl (.inl h))
      have c2 : ¬ 255 < v1.x := fun h => hbad (.inl (.inr h))
      have c3 : ¬ v3.x < -1 := fun h => hbad (.inr (.inl h))
      have c4 : ¬ 255 < v3.x := fun h => hbad (.inr (.inr h))
      simp -implicitDefEqProofs [encI, t0, c1, c2, c3, c4]
      refine callQ_item rdFlag false (fun y => decide (y.n = 1)) (by simp [inI]) k4.is (item_flag u4) (by simp) fun v5 u5 _ _ q5 g5 => ?_
      simp -implicitDefEqProofs [encI, t4]
      refine appQ_tok (t := t) (es := L.map encSpanT) (es2 := [encSpanT ⟨⟨v1.x, v2.n⟩, ⟨v3.x, v4.n⟩, decide (v5.n = 1)⟩]) (by simpa [hL.len] using hL.live) (by simp [encSpanT]) (by simp [srcA, encSpanT]) (by simp [hL.len]; omega) fun t' h3 p1 p2 p3 p4 => ?_
      have hg : Got rdSpanT sj ⟨⟨v1.x, v2.n⟩, ⟨v3.x, v4.n⟩, decide (v5.n = 1)⟩ u5 := (gk1 (by omega)).bind ((gk2 (by omega)).bind (g5.bind (Got.pure _ _)))
      have hl2 := hL.next hg (h2 := _) (h3 := h3) (t' := t') (hL.to.trans (k4.trans q5)) (by simpa [hL.len] using p1) p2 p3
      simp -implicitDefEqProofs [t5, inc_i64 hlt (show N ≤ _ by omega), -Int.natCast_add]
      exact ih (N - (j + 1)) _ _ (by omega) ⟨j + 1, u5, _, t', rfl, by omega, by simp [t0], by simp, by simp [t3], by simp, Or.inl hl2⟩
  · obtain rfl : j = N := by omega
    have hx := hL.to.is.bx
    have hlt2 := hL.to.is.blt
    have hgp : Got rdFoot s L sj := g.bind (by rw [Int.toNat_natCast]; exact hL.got)
    simp -implicitDefEqProofs [t0, t3, t5, hx, hlt2, len_encRS]
    cases sj with
    | none =>
      simp -implicitDefEqProofs [encRS]
      exact ⟨none, hL.to.fin, Got.any hgp _⟩
    | some l =>
      simp -implicitDefEqProofs [encRS, t4]
      exact ⟨L, rfl, some l, hL.to.fin, hgp, (fun h => by cases h)⟩
end Go.Proofs
