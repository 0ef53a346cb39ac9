/- What the functions that the statement reaches do: their contracts; and what follows of it. -/
import Derived.Test.YtejbnedogieocaaGreatSCatWords9
import Derived.Test.YtejbnedogieocaaGreatSCatWords10
import Derived.Test.YtejbnedogieocaaGreatSCatWords8
import Derived.Test.YtejbnedogieocaaGreatK4
/- What is written of a catalogue is read as that catalogue: plain laws. -/
namespace Go.Proofs
open Go Go.RowKit Go.Am

def brkItems (x : Ctlg) (k : Nat) : Item := iN (x.brk (k / x.classes.length) (k % x.classes.length)) 255
def catItems (x : Ctlg) : List Item := iN x.classes.length 4 :: (x.classes.flatMap clsItems ++ (List.range (x.classes.length * x.classes.length)).map (brkItems x))

theorem back_clsM {c : Cls} (h : clsMay c = true) : Back rdClsM (writeAll (clsItems c)) c := fun rest => by
  simp only [rdClsM, back_cls h rest, Option.bind_some, h, if_true]

theorem cat_parts {x : Ctlg} (h : catMay x = true) : 1 ≤ x.classes.length ∧ x.classes.length ≤ 4 ∧ ∀ c (hc : c < x.classes.length), clsMay x.classes[c] = true := by
  simp only [catMay, Bool.and_eq_true, Bool.not_eq_true', decide_eq_false_iff_not] at h
  obtain ⟨⟨⟨h1, h2⟩, h3⟩, _⟩ := h
  refine ⟨by omega, by omega, fun c hc => ?_⟩
  rw [List.all_eq_true] at h3
  have := h3 c (List.mem_range.2 hc)
  rw [Bool.and_eq_true, Ctlg.clsOK_of hc] at this
  exact this.1

theorem brk7 {x : Ctlg} (hw : x.wf) (h : catMay x = true) {c d : Nat} (hc : c < x.classes.length) (hd : d < x.classes.length) : 0 ≤ x.brk c d ∧ x.brk c d ≤ 7 := by
  obtain ⟨hs, _⟩ := catMay_small hw h
  have n4 := hs.2.1
  obtain ⟨m0, m1⟩ := may_brk h c d (by omega) (by omega)
  rw [Ctlg.mostB, if_pos ⟨hc, hd⟩, Ctlg.stepsN_of hc] at m1
  obtain ⟨s0, s4, _⟩ := hs.2.2.1 _ (List.getElem_mem hc)
  have h4 : x.classes[c].steps.length - 1 = 0 ∨ x.classes[c].steps.length - 1 = 1 ∨ x.classes[c].steps.length - 1 = 2 ∨ x.classes[c].steps.length - 1 = 3 := by omega
  refine ⟨m0, ?_⟩
  rcases h4 with e | e | e | e <;> rw [e] at m1 <;> simp at m1 <;> omega

theorem divmod_cn {n c d : Nat} (hd : d < n) : (c * n + d) / n = c ∧ (c * n + d) % n = d := by
  constructor
  · rw [Nat.mul_comm, Nat.mul_add_div (by omega), Nat.div_eq_of_lt hd, Nat.add_zero]
  · rw [Nat.mul_comm, Nat.mul_add_mod, Nat.mod_eq_of_lt hd]

theorem lay_brk {x : Ctlg} (hw : x.wf) (h : catMay x = true) : lay x.classes.length ((List.range (x.classes.length * x.classes.length)).map fun k => x.brk (k / x.classes.length) (k % x.classes.length)) = x.breaks := by
  obtain ⟨hs, _⟩ := catMay_small hw h
  have n4 := hs.2.1
  have hb := hw.2.1
  apply List.ext_getElem
  · rw [lay_len, hb]
  intro i h1 h2
  have hi : i < 16 := by rw [lay_len] at h1; exact h1
  have e4 : 4 * (i / 4) + i % 4 = i := by omega
  have hx : x.brk (i / 4) (i % 4) = x.breaks[i] := by rw [Ctlg.brk_of hb (by omega) (by omega)]; simp only [e4]
  rw [lay_get, ← hx]
  by_cases hcd : i / 4 < x.classes.length ∧ i % 4 < x.classes.length
  · rw [if_pos hcd]
    obtain ⟨q1, q2⟩ := divmod_cn (c := i / 4) hcd.2
    have hlt : i / 4 * x.classes.length + i % 4 < x.classes.length * x.classes.length := by
      have := Nat.mul_le_mul_right x.classes.length (show i / 4 + 1 ≤ x.classes.length by omega)
      rw [Nat.add_mul] at this; omega
    rw [List.getD_eq_getElem?_getD, List.getElem?_map, List.getElem?_range hlt, Option.map_some, Option.getD_some, q1, q2]
  · rw [if_neg hcd]
    obtain ⟨m0, m1⟩ := may_brk h (i / 4) (i % 4) (by omega) (by omega)
    rw [Ctlg.mostB, if_neg hcd] at m1
    omega

theorem back_cat {x : Ctlg} (hw : x.wf) (h : catMay x = true) : Back rdCat (writeAll (catItems x)) x := by
  obtain ⟨n1, n4, hcl⟩ := cat_parts h
  have e : writeAll (catItems x) = [(x.classes.length : Int).toNat] ++ ((x.classes.flatMap fun c => writeAll (clsItems c)) ++ ((List.range (x.classes.length * x.classes.length)).map fun k => x.brk (k / x.classes.length) (k % x.classes.length)).flatMap fun v => [v.toNat]) := by
    rw [catItems, writeAll_cons, w_iN, writeAll_app, writeAll_flat]
    congr 2
    simp [writeAll, brkItems, w_iN, List.flatMap_map]
  rw [e]
  refine (Back.count (n := (x.classes.length : Int)) (by omega) (by omega)).bind ?_
  rw [Int.toNat_natCast]
  have h1 : Back (Rd.rep rdClsM x.classes.length) (x.classes.flatMap fun c => writeAll (clsItems c)) x.classes := Back.rep fun c hc => by
    obtain ⟨j, hj, rfl⟩ := List.mem_iff_getElem.1 hc
    exact back_clsM (hcl j hj)
  have h2 := Back.rep (p := rdCount 255) (f := fun v : Int => [v.toNat]) (L := (List.range (x.classes.length * x.classes.length)).map fun k => x.brk (k / x.classes.length) (k % x.classes.length)) (fun v hv => by
    obtain ⟨k, hk, rfl⟩ := List.mem_map.1 hv
    have hk := List.mem_range.1 hk
    have hc : k / x.classes.length < x.classes.length := Nat.div_lt_of_lt_mul hk
    have hd : k % x.classes.length < x.classes.length := Nat.mod_lt _ (by omega)
    obtain ⟨b0, b7⟩ := brk7 hw h hc hd
    exact Back.count b0 (by omega))
  rw [List.length_map, List.length_range] at h2
  refine h1.bind (h2.last ?_)
  rw [lay_brk hw h]
  exact Back.pure _

theorem it_cat {x : Ctlg} (hw : x.wf) (h : catMay x = true) : ∀ y ∈ catItems x, itOK y := fun y hy => by
  obtain ⟨n1, n4, hcl⟩ := cat_parts h
  simp only [catItems, List.mem_cons, List.mem_append, List.mem_flatMap, List.mem_map, List.mem_range] at hy
  rcases hy with rfl | ⟨c, hc, hy⟩ | ⟨k, hk, rfl⟩
  · exact it_N (by simp only [inI]; omega)
  · obtain ⟨j, hj, rfl⟩ := List.mem_iff_getElem.1 hc
    exact it_cls (hw.1.2 _ (List.getElem_mem hj)) (hcl j hj) y hy
  · have hc : k / x.classes.length < x.classes.length := Nat.div_lt_of_lt_mul hk
    have hd : k % x.classes.length < x.classes.length := Nat.mod_lt _ (by omega)
    obtain ⟨b0, b7⟩ := brk7 hw h hc hd
    exact it_N (by simp only [inI]; omega)
theorem cls_flat_len {x : Ctlg} (h : catMay x = true) : ∀ j, j ≤ x.classes.length → ((x.classes.take j).flatMap clsItems).length ≤ 1000 * j := fun j => by
  obtain ⟨n1, n4, hcl⟩ := cat_parts h
  induction j with
  | zero => intro _; simp
  | succ j ih =>
    intro hj
    rw [flat_snoc clsItems (show j < x.classes.length by omega), List.length_append]
    have := ih (by omega)
    have := clsI_len (hcl j (by omega))
    omega
theorem catI_len {x : Ctlg} (h : catMay x = true) : (catItems x).length ≤ 4100 := by
  obtain ⟨n1, n4, hcl⟩ := cat_parts h
  have h1 := cls_flat_len h x.classes.length (Nat.le_refl _)
  rw [List.take_length] at h1
  have h2 : x.classes.length * x.classes.length ≤ 4 * 4 := Nat.mul_le_mul n4 n4
  simp only [catItems, List.length_cons, List.length_append, List.length_map, List.length_range]
  omega
end Go.Proofs

/- The program's writer of catalogues. -/
namespace Go.Proofs
open Go Go.RowKit Go.Am

set_option maxHeartbeats 1000000 in
theorem put12_run (x : Ctlg) (hb16 : x.breaks.length = 16) {b B0 B1 c d : Nat} {s : Slots} {h : H} (hc : c < 4) (hd : d < 4) (s2 : s 2 = .ptr B0 0) (s3 : s 3 = .ptr B1 0) (s6 : s 6 = .int .i64 c) (s7 : s 7 = .int .i64 d) (n0 : B0 < h.bn) (x0 : h.bx B0 = some [.ptr b 0]) (n1 : B1 < h.bn) (x1 : h.bx B1 = some (encCtlg x))
    {G : H → Prop} (hr : ∀ K : AV → H → Prop, (∀ r h', G h' → K r h') → callQ Tryz.prog (.fn 20 [] []) [.ptr b 0, .int .i64 (x.brk c d)] h K)
    {inr : Bool} {k : List It} {Q : Res → Slots → H → Prop} (hk : ∀ S h', (∀ y, y < 28 → S y = s y) → G h' → Run Tryz.prog inr k Q S h') :
    Run Tryz.prog inr (.c (.dreg c6_r12 c6_a12) :: k) Q s h := by
  have hbk := Ctlg.brk_load (x := x) (.sl .no (x.classes.map encCls)) hb16 hc hd
  let V : Nat → AV := fun i => match i with
    | 0 => .ptr b 0 | 1 => .int .i64 c | 2 => .int .i64 d | 3 => .ptr B1 1 | 4 => .ptr B1 (1 + c * 4) | 5 => .ptr B1 (1 + c * 4 + d) | _ => .int .i64 (x.brk c d)
  let Inv : List Nat → Slots → H → Prop := fun done S h' => (∀ i ∈ done, i < 8) ∧ (∀ i ∈ done, ∀ q ∈ c6_a12.getD i [], q ∈ done) ∧ (∀ y, y < 28 → S y = s y) ∧ (∀ i ∈ done, i < 7 → S (28 + i) = V i) ∧ (7 ∉ done → h' = h) ∧ (7 ∈ done → G h')
  rw [encCtlg] at x1
  refine run_topoQ (Inv := Inv) ?_ ⟨(fun i hi => absurd hi List.not_mem_nil), (fun i hi => absurd hi List.not_mem_nil), fun _ _ => rfl, (fun i hi => absurd hi List.not_mem_nil), fun _ => rfl, (fun hi => absurd hi List.not_mem_nil)⟩ ?_
  · rintro i y done S h' hx hnd haft ⟨d0, d1, d2, d3, d4, d5⟩
    have hi : i < 8 := (List.getElem?_eq_some_iff.1 hx).1
    have cl : ∀ m ∈ i :: done, ∀ q ∈ c6_a12.getD m [], q ∈ i :: done := fun m hm q hq => by
      rcases List.mem_cons.1 hm with rfl | hm
      · exact List.mem_cons_of_mem _ (haft q hq)
      · exact List.mem_cons_of_mem _ (d1 m hm q hq)
    have lt : ∀ m ∈ i :: done, m < 8 := fun m hm => by rcases List.mem_cons.1 hm with rfl | hm; exact hi; exact d0 m hm
    have anc : 7 ∈ done → ∀ q, q < 7 → q ∈ done := fun h7 q hq => by
      have m0 := d1 7 h7 0 (by decide)
      have m6 := d1 7 h7 6 (by decide)
      have m5 := d1 6 m6 5 (by decide)
      have m4 := d1 5 m5 4 (by decide)
      have m2 := d1 5 m5 2 (by decide)
      have m3 := d1 4 m4 3 (by decide)
      have m1 := d1 4 m4 1 (by decide)
      have : q = 0 ∨ q = 1 ∨ q = 2 ∨ q = 3 ∨ q = 4 ∨ q = 5 ∨ q = 6 := by omega
      rcases this with rfl | rfl | rfl | rfl | rfl | rfl | rfl <;> assumption
    have light : ∀ (hi7 : i < 7), (7 ∉ done → pv y.op (ev S) h = some (V i)) → y.dst = some (28 + i) → y.g = none → (∀ K : AV → H → Prop, ob (pv y.op (ev S) h') (fun v => K v h') → wpI Tryz.prog y.op (ev S) h' K) → y.g = none ∧ wpI Tryz.prog y.op (ev S) h' fun v h1 => Inv (i :: done) (put S y.dst v) h1 := fun hi7 hv hd hg hw => by
      have h7 : 7 ∉ done := fun h => hnd (anc h i hi7)
      refine ⟨hg, hw _ ?_⟩
      obtain rfl := d4 h7
      rw [hv h7]
      refine ⟨lt, cl, fun z hz => ?_, fun m hm hm7 => ?_, fun _ => rfl, fun h => ?_⟩
      · rw [hd]
        show su S (28 + i) _ z = _
        rw [su_ne (by omega)]
        exact d2 z hz
      · rw [hd]
        show su S (28 + i) _ (28 + m) = _
        by_cases e : m = i
        · subst e; exact su_eq
        · rw [su_ne (by omega)]
          exact d3 m (by rcases List.mem_cons.1 hm with h | h; exact absurd h e; exact h) hm7
      · rcases List.mem_cons.1 h with h | h
        · omega
        · exact absurd h h7
    have t2 : S 2 = .ptr B0 0 := by rw [d2 2 (by decide)]; exact s2
    have t3 : S 3 = .ptr B1 0 := by rw [d2 3 (by decide)]; exact s3
    have t6 : S 6 = .int .i64 c := by rw [d2 6 (by decide)]; exact s6
    have t7 : S 7 = .int .i64 d := by rw [d2 7 (by decide)]; exact s7
    have h8 : i = 0 ∨ i = 1 ∨ i = 2 ∨ i = 3 ∨ i = 4 ∨ i = 5 ∨ i = 6 ∨ i = 7 := by omega
    rcases h8 with rfl | rfl | rfl | rfl | rfl | rfl | rfl | rfl
    · cases hx; exact light (by decide) (fun _ => by simp [t2, V, n0, x0]) rfl rfl fun K hK => hK
    · cases hx; exact light (by decide) (fun _ => by simp [t6, V]) rfl rfl fun K hK => hK
    · cases hx; exact light (by decide) (fun _ => by simp [t7, V]) rfl rfl fun K hK => hK
    · cases hx; exact light (by decide) (fun _ => by simp [t3, V]) rfl rfl fun K hK => hK
    · cases hx
      have e1 := d3 3 (haft 3 (by decide)) (by decide)
      have e2 := d3 1 (haft 1 (by decide)) (by decide)
      exact light (by decide) (fun _ => by simp [e1, e2, V, show (c : Int) < 4 by omega]) rfl rfl fun K hK => hK
    · cases hx
      have e1 := d3 4 (haft 4 (by decide)) (by decide)
      have e2 := d3 2 (haft 2 (by decide)) (by decide)
      exact light (by decide) (fun _ => by simp [e1, e2, V, show (d : Int) < 4 by omega]) rfl rfl fun K hK => hK
    · cases hx
      have e1 := d3 5 (haft 5 (by decide)) (by decide)
      exact light (by decide) (fun _ => by simp [e1, V, n1, x1, hbk, hb16, show 1 + c * 4 + d + 1 ≤ 16 + 1 by omega]) rfl rfl fun K hK => hK
    · cases hx
      obtain rfl := d4 hnd
      have e1 : S 28 = _ := d3 0 (haft 0 (by decide)) (by decide)
      have e2 : S 34 = _ := d3 6 (haft 6 (by decide)) (by decide)
      refine ⟨rfl, ?_⟩
      show callQ Tryz.prog (.fn 20 [] []) [S 28, S 34] h' _
      rw [e1, e2]
      refine hr _ fun r h2 g => ⟨lt, cl, fun z hz => ?_, fun m hm hm7 => ?_, fun h => absurd (List.mem_cons_self ..) h, fun _ => g⟩
      · show su S 35 _ z = _
        rw [su_ne (by omega)]; exact d2 z hz
      · show su S 35 _ (28 + m) = _
        rw [su_ne (by omega)]
        exact d3 m (by rcases List.mem_cons.1 hm with h | h; omega; exact h) hm7
  · rintro done S h' hall ⟨d0, d1, d2, d3, d4, d5⟩
    exact hk S h' d2 (d5 (hall 7 (by decide)))
end Go.Proofs

/- The program's writer of catalogues, whole; a catalogue's items: the document's answer. -/
namespace Go.Proofs
open Go Go.RowKit Go.Am

theorem items_flat {x : Ctlg} (h : catMay x = true) (j : Nat) (hj : j ≤ x.classes.length) : (writeAll ((x.classes.take j).flatMap clsItems)).length ≤ 102 * (1000 * 4) := by
  obtain ⟨n1, n4, hcl⟩ := cat_parts h
  have h1 := cls_flat_len h j hj
  have key : ∀ y ∈ (x.classes.take j).flatMap clsItems, y.l.length ≤ 100 := fun y hy => by
    obtain ⟨c, hc, hy⟩ := List.mem_flatMap.1 hy
    have : y.l = [] := by
      simp only [clsItems, stpItems, progItems, footItems, instItems, spanItems, keyItems, List.mem_append, List.mem_cons, List.not_mem_nil, or_false, List.mem_flatMap] at hy
      rcases hy with ((rfl | rfl | rfl) | ⟨p, _, ((rfl | ⟨z, _, hy⟩) | (rfl | ⟨z, _, hy⟩)) | ((rfl | ⟨z, _, hy⟩) | (rfl | ⟨z, _, hy⟩))⟩) | rfl
      all_goals first | rfl | skip
      all_goals (first
        | (rcases hy with ((rfl | rfl | rfl | rfl) | (rfl | rfl) | (rfl | rfl)) | rfl <;> rfl)
        | (rcases hy with ((rfl | rfl) | (rfl | rfl)) | rfl <;> rfl))
    rw [this]; exact Nat.zero_le _
  have h2 := writeAll_len _ key
  have h3 : 1000 * j ≤ 1000 * 4 := by omega
  exact Nat.le_trans h2 (Nat.mul_le_mul_left 102 (Nat.le_trans h1 h3))

set_option maxHeartbeats 2000000 in
theorem catPut_ok {h : H} {b : Nat} {t : Tok} {ws : List Nat} (hw : WB h b t ws) (x : Ctlg) (hx : x.wf) (hm : catMay x = true) (hl : ws.length ≤ 100) : WAdd 6 [.ptr b 0, .agg (encCtlg x)] h b t (ws ++ writeAll (catItems x)) := by
  refine CallP.run hb6 ok6 (by simp) ?_
  obtain ⟨n1, n4, hcl⟩ := cat_parts hm
  have hb16 := hx.2.1
  have htk := x.take16 hb16
  have hb := hw.lt
  have hw0 := (hw.alloc [.ptr b 0]).alloc (encCtlg x)
  have zb : ¬ b = h.bn := by omega
  have zb1 : ¬ b = h.bn + 1 := by omega
  simp -implicitDefEqProofs [encCtlg]
  rw [encCtlg] at hw0
  refine callW (count_ok hw0 (x.classes.length : Int) (by omega) (by omega)) (by simp) fun r h1 t1 q1 => ?_
  rw [Int.toNat_natCast] at q1
  generalize hh0 : ((h.alloc [.ptr b 0]).alloc (.sl .no (x.classes.map encCls) :: x.breaks.map (AV.int .i64)) : H) = h0 at q1
  have bX : ∀ (h' : H) (t' : Tok) (ws' : List Nat), WTo h0 b t ws' h' t' → h.bn + 1 < h'.bn ∧ h'.bx h.bn = some [.ptr b 0] ∧ h'.bx (h.bn + 1) = some (.sl .no (x.classes.map encCls) :: x.breaks.map (AV.int .i64)) := fun h' t' ws' q => by
    subst hh0
    exact ⟨Nat.lt_of_lt_of_le (by simp) q.keep.bn, by rw [q.keep.bx _ (by simp) (fun e => zb e.symm)]; simp, by rw [q.keep.bx _ (by simp) (fun e => zb1 e.symm)]; simp⟩
  have bb : b < h0.bn := by rw [← hh0]; simp; omega
  have h0n : h0.bn = h.bn + 2 := by rw [← hh0]; simp
  obtain ⟨p1, x1, y1⟩ := bX _ _ _ q1
  have m1 : h.bn < h1.bn := by omega
  simp -implicitDefEqProofs [p1, y1]
  refine run_loop (fun m S h1 => ∃ (j : Nat) (t1 : Tok), m = x.classes.length - j ∧ j ≤ x.classes.length ∧ S 2 = .ptr h.bn 0 ∧ S 3 = .ptr (h.bn + 1) 0 ∧ S 14 = .sl .no (x.classes.map encCls) ∧ S 15 = .int .i64 x.classes.length ∧ S 16 = .int .i64 j ∧ WTo h0 b t (ws ++ [x.classes.length] ++ writeAll ((x.classes.take j).flatMap clsItems)) h1 t1) ?_ x.classes.length ?_
  rotate_left
  · exact ⟨0, t1, rfl, Nat.zero_le _, by simp, by simp, by simp, by simp, by simp, by simpa [writeAll] using q1⟩
  clear q1 p1 x1 y1 m1
  rintro m S h1 ⟨j, t1, hmj, hj, s2, s3, s14, s15, s16, hq⟩ ih
  have hil := items_flat hm j hj
  obtain ⟨p1, x1, y1⟩ := bX _ _ _ hq
  have m1 : h.bn < h1.bn := by omega
  have hlw : (ws ++ [x.classes.length] ++ writeAll ((x.classes.take j).flatMap clsItems)).length ≤ 500000 := by simp only [List.length_append, List.length_cons, List.length_nil]; omega
  by_cases hlt : j < x.classes.length
  · have he := flat_snoc clsItems hlt
    have lc : (encCls x.classes[j]).length = 5 := rfl
    have tc : List.take 5 (encCls x.classes[j]) = encCls x.classes[j] := rfl
    have w0 : ¬ h.bn = h1.bn := by omega
    have k1 := (hq.al [.str ⟨#[]⟩, .int .i64 0, .sl .full [], .sl .full [], .bool false]).so (b' := h1.bn) (by omega) bb (encCls x.classes[j])
    simp -implicitDefEqProofs [s2, s14, s15, s16, hlt, lc, tc, x1, w0, show h.bn < h1.bn + 1 by omega]
    refine callW (classPut_ok k1.wb x.classes[j] (hx.1.2 _ (List.getElem_mem hlt)) (hcl j hlt) (by omega)) (by simp) fun r h2 t2 q2 => ?_
    have k2 := k1.trans q2
    rw [List.append_assoc, ← writeAll_app, ← he] at k2
    simp -implicitDefEqProofs [s16, inc_i64 hlt (show x.classes.length ≤ _ by omega), -Int.natCast_add]
    exact ih (x.classes.length - (j + 1)) _ _ (by omega) ⟨j + 1, t2, rfl, by omega, by simp [s2], by simp [s3], by simp [s14], by simp [s15], by simp, k2⟩
  · obtain rfl : j = x.classes.length := by omega
    rw [List.take_length] at hq hlw
    clear ih
    simp -implicitDefEqProofs [s3, s15, s16, p1, y1, htk, hb16]
    refine callQ_s (pairs_ok x hb16 _) (by simp [encCtlg]) ?_
    simp -implicitDefEqProofs []
    generalize hS : (su _ 25 _ : Slots) = S2
    have r2 : S2 2 = .ptr h.bn 0 := by rw [← hS]; simp [s2]
    have r3 : S2 3 = .ptr (h.bn + 1) 0 := by rw [← hS]; simp [s3]
    have r25 : S2 25 = .fn 46 [] [.ptr h1.bn 0] := by rw [← hS]; simp
    clear hS
    have k4 := hq.al (encCtlg x)
    generalize hH : h1.alloc (encCtlg x) = h4 at k4
    have e4 : h4.bx h1.bn = some (encCtlg x) := by rw [← hH]; simp
    have f4 : h4.bn = h1.bn + 1 := by rw [← hH]; simp
    clear hH
    have hln : h0.ln ≤ h4.ln := k4.keep.ln
    let q0 : LoopA := ⟨S2, [26, 27], c6_x13, c6_y14, .ready, none⟩
    let W : Nat → List Nat := fun k => ws ++ [x.classes.length] ++ writeAll (x.classes.flatMap clsItems) ++ writeAll ((List.range k).map (brkItems x))
    have hW : ∀ k, W (k + 1) = W k ++ [(x.brk (k / x.classes.length) (k % x.classes.length)).toNat] := fun k => by
      simp only [W]
      rw [List.range_succ, List.map_append, writeAll_app]
      simp [writeAll, brkItems, w_iN]
    have hWl : ∀ k, (W k).length ≤ 500000 + k := fun k => by
      induction k with
      | zero => simp only [W, List.range_zero, List.map_nil]; simpa [writeAll] using hlw
      | succ k ih => rw [hW, List.length_append]; simp only [List.length_cons, List.length_nil]; omega
    let I : Nat → H → Prop := fun k h' => h4.ln < h'.ln ∧ h'.lp h4.ln = some q0 ∧ h4.bn ≤ h'.bn ∧ h'.bx h1.bn = some (encCtlg x) ∧ ∃ t', WTo h0 b t (W k) h' t'
    refine .rngf (Z := fun _ h' => I (x.classes.length * x.classes.length) h') (F := 46) (first := []) (caps := [.ptr h1.bn 0]) rfl (by simpa using r25) (pairs1_ok x n4 I (fun k h' ⟨_, _, q1, q2, _⟩ => ⟨by omega, q2⟩) ?_ ?_) ?_ ?_
    · rintro c d h' hc hd ⟨j1, j2, j3, j4, t', j5⟩ K hK
      obtain ⟨p5, x5, y5⟩ := bX _ _ _ j5
      obtain ⟨v1, v2⟩ := divmod_cn (c := c) hd
      have hWk := hW (c * x.classes.length + d)
      rw [v1, v2] at hWk
      have hWlk := hWl (c * x.classes.length + d)
      have hcd : c * x.classes.length + d ≤ 20 := by
        have : c * x.classes.length ≤ 4 * 4 := Nat.mul_le_mul (by omega) n4
        omega
      obtain ⟨b0, b7⟩ := brk7 hx hm hc hd
      refine callQ_y (q := q0) j1 j2 rfl ?_
      have k5 := j5.sl hln (some ⟨S2, [26, 27], c6_x13, c6_y14, .busy, none⟩)
      simp -implicitDefEqProofs [slotsP, j1, j2, q0]
      refine put12_run x hb16 (B0 := h.bn) (B1 := h.bn + 1) (b := b) (c := c) (d := d) (by omega) (by omega) (by simp [r2]) (by simp [r3]) (by simp) (by simp) (by simp; omega) (by simp [x5]) (by simpa using p5) (by simp [y5, encCtlg])
        (G := fun h6 => ∃ t6, WTo (h'.setLoop h4.ln (some ⟨S2, [26, 27], c6_x13, c6_y14, .busy, none⟩)) b t' (W (c * x.classes.length + d + 1)) h6 t6) ?_ ?_
      · intro K2 hK2
        refine callW (count_ok k5.wb (x.brk c d) (by omega) (by omega)) (by simp) fun r h6 t6 q6 => ?_
        rw [← hWk] at q6
        exact hK2 r h6 ⟨t6, q6⟩
      · rintro S3 h6 _ ⟨t6, q6⟩
        have k6 := k5.trans q6
        have l6 : h'.ln ≤ h6.ln := q6.keep.ln
        have p6 : h6.lp h4.ln = some ⟨S2, [26, 27], c6_x13, c6_y14, .busy, none⟩ := by rw [q6.keep.lp h4.ln (by simpa using j1)]; simp
        have b6 : h'.bn ≤ h6.bn := q6.keep.bn
        have e6 : h6.bx h1.bn = some (encCtlg x) := by
          rw [q6.keep.bx h1.bn (by simp; omega) (fun e => by have e : h1.bn = b := e; omega)]
          simpa using j4
        have l7 : h4.ln < h6.ln := by omega
        simp -implicitDefEqProofs [roundQ, l7, p6]
        exact hK _ ⟨by simpa using l7, by simp [q0], by simp; omega, by simpa using e6, t6, k6.sl hln _⟩
    · refine ⟨by simp, by simp [q0], by simp, by simpa using e4, t1, ?_⟩
      have := k4.nl q0
      simpa [W, writeAll] using this
    · rintro v h5 ⟨j1, j2, _⟩
      exact ⟨j1, _, j2, by simp [q0]⟩
    · rintro v h5 q ⟨j1, j2, j3, j4, t', j5⟩ hq5
      rw [j2] at hq5
      cases hq5
      have k7 := j5.sl hln none
      simp only [pendK, q0, List.nil_append]
      simp -implicitDefEqProofs []
      refine ⟨t', ?_⟩
      have hfin : W (x.classes.length * x.classes.length) = ws ++ writeAll (catItems x) := by
        simp only [W, catItems]
        rw [writeAll_cons, writeAll_app, w_iN, Int.toNat_natCast]
        simp
      rw [hfin, ← hh0] at k7
      exact k7.alloc.alloc

set_option maxHeartbeats 1000000 in
theorem refCatItems_ok (x : Ctlg) (hx : x.wf) (hm : catMay x = true) : PCall Tryz.prog 12 [.agg (encCtlg x)] (encIs (catItems x)) := by
  refine PCall.run hb12 ok12 (by simp) (pures1 (.agg (pure_encCtlg x))) (pure_encIs _) ?_
  obtain ⟨n1, n4, hcl⟩ := cat_parts hm
  have hb16 := hx.2.1
  simp -implicitDefEqProofs [encCtlg, H.nil]
  refine run_loop (fun m S h1 => ∃ (j : Nat) (t : Tok), m = x.classes.length - j ∧ j ≤ x.classes.length ∧ S 1 = .ptr 0 0 ∧ 0 < h1.bn ∧ h1.bx 0 = some (.sl .no (x.classes.map encCls) :: x.breaks.map (AV.int .i64)) ∧
    (∃ es, S 3 = .sl t es ∧ AreI es (iN x.classes.length 4 :: (x.classes.take j).flatMap clsItems) ∧ TLive h1 t es.length) ∧ S 4 = .int .i64 j) ?_ x.classes.length ?_
  rotate_left
  · exact ⟨0, .full, rfl, Nat.zero_le _, by simp, by simp, by simp, ⟨_, by simp; rfl, by simp [AreI, iN, encI], trivial⟩, by simp⟩
  rintro m S h1 ⟨j, t, hm', hj, s1, p1, b1, ⟨es, s3, hA0, hL⟩, s4⟩ ih
  have hfl := cls_flat_len hm j hj
  by_cases hlt : j < x.classes.length
  · have he := flat_snoc clsItems hlt
    have hcl1 := clsI_len (hcl j hlt)
    simp -implicitDefEqProofs [s1, s3, s4, hlt, p1, b1]
    refine callQ_p (refClsItems_ok x.classes[j] (hcl j hlt)) (by simp) ?_
    simp -implicitDefEqProofs [encIs]
    refine appQ_i hA0 (AreI.self _) hL (by simp only [List.length_cons]; omega) fun t1 h2 e1 a1 q1 q2 q3 => ?_
    have b2 := (q2.bx 0 p1 fun h => h).trans b1
    have p2 : 0 < h2.bn := by rw [q3]; exact p1
    rw [List.cons_append, ← he] at a1
    simp -implicitDefEqProofs [s4, inc_i64 hlt (show x.classes.length ≤ _ by omega), -Int.natCast_add]
    exact ih (x.classes.length - (j + 1)) _ _ (by omega) ⟨j + 1, t1, rfl, by omega, by simp [s1], p2, b2, ⟨e1, by simp, a1, q1⟩, by simp⟩
  · obtain rfl : j = x.classes.length := by omega
    rw [List.take_length] at hA0 hfl
    clear ih
    have hal : ∀ k, k ≤ 16 → (iN x.classes.length 4 :: (x.classes.flatMap clsItems ++ (List.range k).map (brkItems x))).length ≤ 4100 := fun k hk => by simp only [List.length_cons, List.length_append, List.length_map, List.length_range]; omega
    have hsn : ∀ c d, d < x.classes.length → iN x.classes.length 4 :: (x.classes.flatMap clsItems ++ (List.range (c * x.classes.length + d)).map (brkItems x)) ++ [iN (x.brk c d) 255] = iN x.classes.length 4 :: (x.classes.flatMap clsItems ++ (List.range (c * x.classes.length + d + 1)).map (brkItems x)) := fun c d hd => by
      obtain ⟨v1, v2⟩ := divmod_cn (c := c) hd
      rw [List.range_succ, List.map_append]
      simp [brkItems, v1, v2]
    simp -implicitDefEqProofs [s1, s4, p1, b1]
    refine run_loop (fun m S h1 => ∃ (c : Nat) (t : Tok), m = x.classes.length - c ∧ c ≤ x.classes.length ∧ S 1 = .ptr 0 0 ∧ 0 < h1.bn ∧ h1.bx 0 = some (.sl .no (x.classes.map encCls) :: x.breaks.map (AV.int .i64)) ∧
      (∃ es, S 3 = .sl t es ∧ AreI es (iN x.classes.length 4 :: (x.classes.flatMap clsItems ++ (List.range (c * x.classes.length)).map (brkItems x))) ∧ TLive h1 t es.length) ∧ S 5 = .int .i64 c) ?_ x.classes.length ?_
    rotate_left
    · exact ⟨0, t, rfl, Nat.zero_le _, by simp [s1], p1, b1, ⟨es, by simp [s3], by simpa using hA0, hL⟩, by simp⟩
    clear hA0 hL s1 s3 s4 p1 b1
    rintro m S h1 ⟨c, t, hm', hc, s1, p1, b1, ⟨es, s3, hA0, hL⟩, s5⟩ ih
    by_cases hlc : c < x.classes.length
    · simp -implicitDefEqProofs [s1, s5, hlc, p1, b1]
      refine run_loop (fun m S h1 => ∃ (d : Nat) (t : Tok), m = x.classes.length - d ∧ d ≤ x.classes.length ∧ S 1 = .ptr 0 0 ∧ 0 < h1.bn ∧ h1.bx 0 = some (.sl .no (x.classes.map encCls) :: x.breaks.map (AV.int .i64)) ∧
        (∃ es, S 3 = .sl t es ∧ AreI es (iN x.classes.length 4 :: (x.classes.flatMap clsItems ++ (List.range (c * x.classes.length + d)).map (brkItems x))) ∧ TLive h1 t es.length) ∧ S 5 = .int .i64 c ∧ S 6 = .int .i64 d) ?_ x.classes.length ?_
      rotate_left
      · exact ⟨0, t, rfl, Nat.zero_le _, by simp [s1], p1, b1, ⟨es, by simp [s3], hA0, hL⟩, by simp [s5], by simp⟩
      clear hA0 hL s1 s3 s5 p1 b1
      rintro m S h1 ⟨d, t, hm', hd, s1, p1, b1, ⟨es, s3, hA0, hL⟩, s5, s6⟩ ih2
      by_cases hld : d < x.classes.length
      · have hbk := Ctlg.brk_load (x := x) (.sl .no (x.classes.map encCls)) hb16 (show c < 4 by omega) (show d < 4 by omega)
        have hcd : c * x.classes.length + d ≤ 16 := by
          have := Nat.mul_le_mul_right x.classes.length (show c + 1 ≤ x.classes.length by omega)
          have h2 : x.classes.length * x.classes.length ≤ 4 * 4 := Nat.mul_le_mul n4 n4
          rw [Nat.add_mul] at this; omega
        have hal1 := hal _ hcd
        simp -implicitDefEqProofs [s1, s3, s5, s6, hld, p1, b1, hbk, hb16, show (c : Int) < 4 by omega, show (d : Int) < 4 by omega, show 1 + c * 4 + d + 1 ≤ 16 + 1 by omega]
        refine appQ_i (b := [iN (x.brk c d) 255]) hA0 (by simp [AreI, iN, encI]) hL (by simp only [List.length_cons, List.length_nil] at hal1 ⊢; omega) fun t1 h2 e1 a1 q1 q2 q3 => ?_
        have b2 := (q2.bx 0 p1 fun h => h).trans b1
        have p2 : 0 < h2.bn := by rw [q3]; exact p1
        rw [hsn c d hld] at a1
        simp -implicitDefEqProofs [s6, inc_i64 hld (show x.classes.length ≤ _ by omega), -Int.natCast_add]
        exact ih2 (x.classes.length - (d + 1)) _ _ (by omega) ⟨d + 1, t1, rfl, by omega, by simp [s1], p2, b2, ⟨e1, by simp, a1, q1⟩, by simp [s5], by simp⟩
      · obtain rfl : d = x.classes.length := by omega
        simp -implicitDefEqProofs [s1, s5, s6, p1, b1, inc_i64 hlc (show x.classes.length ≤ _ by omega), -Int.natCast_add]
        exact ih (x.classes.length - (c + 1)) _ _ (by omega) ⟨c + 1, t, rfl, by omega, by simp [s1], p1, b1, ⟨es, by simp [s3], by rw [Nat.add_mul, Nat.one_mul]; exact hA0, hL⟩, by simp⟩
    · obtain rfl : c = x.classes.length := by omega
      simp -implicitDefEqProofs [s1, s3, s5, p1, b1]
      exact congrArg (AV.sl .no) hA0
end Go.Proofs

/- The program's reader of catalogues: its breakpoints. -/
namespace Go.Proofs
open Go Go.RowKit Go.Am

theorem get1_rd {h : H} {b bf : Nat} {s : RS} (hr : RIs h b s) (hf : bf < h.bn) (hbf : h.bx bf = some [.ptr b 0]) (c d : Int) : RdX 27 [.int .i64 c, .int .i64 d, .ptr bf 0] h b (.int .i64 (runS (rdCount 255) 0 s).1) (runS (rdCount 255) 0 s).2 := by
  refine RdX.mk' hr ((rdCount_ok 255).bd 0 hr.bd) (.int _ _) (CallP.run hb27 ok27 (by simp) ?_)
  simp -implicitDefEqProofs [hf, hbf]
  have hn := count_rd hr (most := 255) (by simp [inI])
  refine callQ_s hn.call (by simp) ?_
  simp -implicitDefEqProofs []
  exact hn.to.fin

set_option maxHeartbeats 1000000 in
theorem turnedQ_ok (x : Ctlg) (hw : x.breaks.length = 16) (n4 : x.classes.length ≤ 4) {h : H} {b bf : Nat} {s : RS} (hr : RIs h b s) (hbf0 : bf < h.bn) (hbf : h.bx bf = some [.ptr b 0]) (hne : ¬ bf = b) :
    CallP Tryz.prog 26 [.agg (encCtlg x), .fn 27 [] [.ptr bf 0]] h fun r h' => ∃ (B : List Int) (s' : RS), r = .agg ((lay x.classes.length B).map (AV.int .i64)) ∧ RTo h b h' s' ∧ Got (Rd.rep (rdCount 255) (x.classes.length * x.classes.length)) s B s' := by
  refine CallP.run hb26 ok26 (by simp) ?_
  have htk := x.take16 hw
  have hb := hr.blt
  simp -implicitDefEqProofs [encCtlg, htk, hw]
  refine callQ_s (pairs_ok x hw _) (by simp [encCtlg]) ?_
  simp -implicitDefEqProofs []
  generalize hS : (su _ 9 _ : Slots) = S
  have s3 : S 3 = .ptr (h.bn + 1) 0 := by rw [← hS]; simp
  have s4 : S 4 = .ptr (h.bn + 2) 0 := by rw [← hS]; simp
  have s5 : S 5 = .ptr (h.bn + 3) 0 := by rw [← hS]; simp
  have s9 : S 9 = .fn 46 [] [.ptr (h.bn + 4) 0] := by rw [← hS]; simp
  clear hS
  have k5 := ((((RTo.refl hr).al (.sl .no (x.classes.map encCls) :: x.breaks.map (AV.int .i64))).al [.fn 27 [] [.ptr bf 0]]).al (List.replicate 16 (.int .i64 0))).al (List.replicate 16 (.int .i64 0)) |>.al (encCtlg x)
  simp only [List.replicate] at k5
  generalize hH : (H.alloc _ (encCtlg x) : H) = h5 at k5 ⊢
  have e1 : h5.bx (h.bn + 1) = some [.fn 27 [] [.ptr bf 0]] := by rw [← hH]; simp
  have e2 : ∃ cs, h5.bx (h.bn + 2) = some cs ∧ cs.length = 16 := by rw [← hH]; exact ⟨_, by simp; rfl, rfl⟩
  have e3 : h5.bx (h.bn + 3) = some ((lay x.classes.length []).map (AV.int .i64)) := by rw [← hH, lay_nil]; simp [List.replicate]
  have e4 : h5.bx (h.bn + 4) = some (encCtlg x) := by rw [← hH]; simp [encCtlg]
  have e5 : h5.bn = h.bn + 5 := by rw [← hH]; simp
  have e6 : h5.ln = h.ln := by rw [← hH]; simp
  clear hH
  let q0 : LoopA := ⟨S, [10, 11], c26_x7, c26_y8, .ready, none⟩
  let J : Nat → H → Prop := fun k h' => h.ln < h'.ln ∧ h'.lp h.ln = some q0 ∧ h.bn + 5 ≤ h'.bn ∧ h'.bx (h.bn + 1) = some [.fn 27 [] [.ptr bf 0]] ∧ (∃ cs, h'.bx (h.bn + 2) = some cs ∧ cs.length = 16) ∧ h'.bx (h.bn + 4) = some (encCtlg x) ∧
    ∃ (B : List Int) (sk : RS), h'.bx (h.bn + 3) = some ((lay x.classes.length B).map (AV.int .i64)) ∧ B.length = k ∧ RTo h b h' sk ∧ Got (Rd.rep (rdCount 255) k) s B sk
  have rsl : ∀ {h' : H} {sk : RS} (o : Option LoopA), RTo h b h' sk → RTo h b (h'.setLoop h.ln o) sk := fun {h' sk} o a => ⟨⟨a.keep.bn, a.keep.bx, a.keep.tn, a.keep.tk, a.keep.ln, fun l hl => by have := a.keep.lp l hl; simp [show ¬ l = h.ln by omega]; exact this, a.keep.mn, a.keep.mp⟩, ⟨a.is.blt, a.is.bx, a.is.bd⟩⟩
  refine .rngf (Z := fun _ h1 => J (x.classes.length * x.classes.length) h1) (F := 46) (first := []) (caps := [.ptr (h.bn + 4) 0]) rfl (by simpa using s9) (pairs1_ok x n4 J (fun k h' ⟨_, _, q1, _, _, q2, _⟩ => ⟨by omega, q2⟩) ?_ ?_) ?_ ?_
  · rintro c d h' hc hd ⟨j1, j2, j3, j4, ⟨cs, j5, j5'⟩, j6, B, sk, j7, j8, j9, j10⟩ K hK
    rw [e6]
    refine callQ_y (q := q0) j1 j2 rfl ?_
    have k6 := rsl (some ⟨S, [10, 11], c26_x7, c26_y8, .busy, none⟩) j9
    have hfb : (h'.setLoop h.ln (some ⟨S, [10, 11], c26_x7, c26_y8, .busy, none⟩)).bx bf = some [.ptr b 0] := by simp; rw [j9.keep.bx bf hbf0 hne]; exact hbf
    have hg := get1_rd k6.is (by simp; omega) hfb c d
    have gg := Got.runS (rdCount 255) 0 sk
    have k7 := k6.trans hg.to
    generalize hv : runS (rdCount 255) 0 sk = vv at hg gg k7
    obtain ⟨v, s'⟩ := vv
    simp only at hg gg k7
    have hst := lay_stepM n4 B v hc hd j8
    have hl := lay_len x.classes.length B
    have z1 : ¬ h.bn + 1 = b := by omega
    have z3 : ¬ h.bn + 3 = b := by omega
    simp -implicitDefEqProofs [slotsP, j1, j2, q0]
    refine run_dreg c26_d6 ?_
    simp -implicitDefEqProofs [s3, j4, show h.bn + 1 < h'.bn by omega]
    refine callD_s hg.call (by simp) ?_
    simp -implicitDefEqProofs [s3, s5, j1, j4, j7, z3, show (c : Int) < 4 by omega, show (d : Int) < 4 by omega, hst, hl, show h.bn + 3 < h'.bn by omega, show h.bn + 1 < h'.bn by omega, show c * 4 + d + 1 ≤ 16 by omega, roundQ]
    refine hK _ ⟨by simpa using j1, by simp [q0], by simp; omega, by simp [j4, z1], ⟨cs, by simp [j5, show ¬ h.bn + 2 = b by omega], j5'⟩, by simp [j6, show ¬ h.bn + 4 = b by omega], B ++ [v], s', by simp, by simp [j8], ?_, j10.bind (gg.bind (Got.pure _ _))⟩
    exact rsl _ (k7.so (b' := h.bn + 3) (by omega) hb _)
  · refine ⟨by simp [e6], by simp [e6, q0], by simp [e5], by simpa using e1, by simpa using e2, by simpa using e4, [], s, by simpa using e3, rfl, ?_, Got.pure _ _⟩
    refine ⟨⟨by simpa using k5.keep.bn, k5.keep.bx, k5.keep.tn, k5.keep.tk, by simp [e6], fun l hl => by simp [e6, show ¬ l = h.ln by omega]; exact k5.keep.lp l hl, k5.keep.mn, k5.keep.mp⟩, ⟨k5.is.blt, k5.is.bx, k5.is.bd⟩⟩
  · rintro v h2 ⟨j1, j2, _⟩
    rw [e6]
    exact ⟨j1, _, j2, by simp [q0]⟩
  · rintro v h2 q ⟨j1, j2, j3, j4, ⟨cs, j5, j5'⟩, j6, B, sk, j7, j8, j9, j10⟩ hq
    rw [e6] at hq ⊢
    rw [j2] at hq
    cases hq
    have hl := lay_len x.classes.length B
    have k8 := rsl none j9
    have tl16 : List.take 16 ((lay x.classes.length B).map (AV.int .i64)) = (lay x.classes.length B).map (AV.int .i64) := List.take_of_length_le (by simp [hl])
    simp -implicitDefEqProofs [pendK, q0, s4, s5, j5, j5', j7, hl, tl16, show h.bn + 3 < h2.bn by omega, show h.bn + 2 < h2.bn by omega]
    exact ⟨B, rfl, sk, k8.so (b' := h.bn + 2) (by omega) hb _, j10⟩
end Go.Proofs

/- The program's reader of catalogues. -/
namespace Go.Proofs
open Go Go.RowKit Go.Am

def zer16 : List AV := [.int .i64 0, .int .i64 0, .int .i64 0, .int .i64 0, .int .i64 0, .int .i64 0, .int .i64 0, .int .i64 0, .int .i64 0, .int .i64 0, .int .i64 0, .int .i64 0, .int .i64 0, .int .i64 0, .int .i64 0, .int .i64 0]
theorem zer16_eq : (List.replicate 16 (0 : Int)).map (AV.int .i64) = zer16 := rfl

set_option maxHeartbeats 2000000 in
set_option maxRecDepth 4000 in
theorem catGet_rd {h : H} {b : Nat} {s : RS} (hr : RIs h b s) : RdX 9 [.ptr b 0] h b (catRV s) (catRS s) := by
  refine RdX.mk' hr (catRS_bd hr.bd) (pure_catRV s) (CallP.run hb9 ok9 (by simp) ?_)
  have hb := hr.blt
  have z0 : ¬ h.bn = b := by omega
  have z1 : ¬ h.bn + 1 = b := by omega
  have z2 : ¬ h.bn + 2 = b := by omega
  have y0 : ¬ b = h.bn := by omega
  have y1 : ¬ b = h.bn + 1 := by omega
  have y2 : ¬ b = h.bn + 2 := by omega
  have k0 := (((RTo.refl hr).al [.ptr b 0]).al (.sl .full [] :: zer16)).al (.sl .full [] :: zer16)
  rw [zer16] at k0
  simp -implicitDefEqProofs []
  have hn := count_rd k0.is (most := 4) (by simp [inI])
  refine callQ_s hn.call (by simp) ?_
  have q := hn.to
  have g := Got.runS (rdCount 4) 0 s
  have hin := rdCount_in (most := 4) (by simp [inI]) s
  clear hn
  generalize runS (rdCount 4) 0 s = x at q g hin ⊢
  obtain ⟨n, s1⟩ := x
  simp only at q g hin
  obtain ⟨N, rfl⟩ := Int.eq_ofNat_of_zero_le hin.1
  have hN : N ≤ 4 := by omega
  have k1 := k0.trans q
  simp -implicitDefEqProofs []
  refine run_loop (fun m S h1 => ∃ (j : Nat) (sj : RS) (L : List Cls) (t : Tok), m = N - j ∧ j ≤ N ∧ S 1 = .ptr h.bn 0 ∧ S 2 = .ptr (h.bn + 1) 0 ∧ S 4 = .ptr (h.bn + 2) 0 ∧ S 8 = .int .i64 N ∧ S 9 = .int .i64 j ∧ RTo h b h1 sj ∧ Got (Rd.rep rdClsM j) s1 L sj ∧ L.length = j ∧
    h1.bx h.bn = some [.ptr b 0] ∧ h1.bx (h.bn + 1) = some (.sl .full [] :: zer16) ∧ h1.bx (h.bn + 2) = some (.sl t (L.map encCls) :: zer16) ∧ h.bn + 2 < h1.bn ∧ TLive h1 t j ∧ TNew h t) ?_ N ?_
  rotate_left
  · exact ⟨0, s1, [], .full, rfl, Nat.zero_le _, by simp, by simp, by simp, by simp, by simp, k1, Got.pure _ _, rfl, by simp [z0], by simp [z1, zer16], by simp [z2, zer16], by simp, trivial, TNew.full _⟩
  clear k1 k0 q
  rintro m S h1 ⟨j, sj, L, t, hm, hj, t1, t2, t4, t8, t9, hto, hgot, hlen, b0, b1, b2, nb, hlive, hnew⟩ ih
  have w0 : h.bn < h1.bn := by omega
  have w1 : h.bn + 1 < h1.bn := by omega
  have hb1 : b < h1.bn := by omega
  have l16 : zer16.length = 16 := rfl
  by_cases hlt : j < N
  · have gc := classGet_rd hto.is
    have q1 := gc.to
    obtain ⟨ok, hv⟩ := clsRV_M sj
    have g1 := Got.runS rdClsM cls0 sj
    rw [clsRS_M] at q1
    generalize hc : (runS rdClsM cls0 sj).1 = c at hv g1
    generalize hs' : (runS rdClsM cls0 sj).2 = s' at q1 g1
    have lc : (encCls c).length = 5 := rfl
    have tc : List.take 5 (encCls c) = encCls c := rfl
    have x0 : ¬ h.bn = h1.bn := by omega
    have x2 : ¬ h.bn + 2 = h1.bn := by omega
    have x1 : ¬ h.bn + 1 = h1.bn := by omega
    have x3 : ¬ h1.bn = b := by omega
    have x4 : h.bn + 2 < h1.bn + 1 := by omega
    have k2 := ((hto.trans q1).al [.str ⟨#[]⟩, .int .i64 0, .sl .full [], .sl .full [], .bool false]).so (b' := h1.bn) (by omega) hb (encCls c)
    simp -implicitDefEqProofs [t1, t8, t9, hlt, b0, w0]
    refine callQ_s gc.call (by simp) ?_
    rw [hv, clsRS_M, hs']
    simp -implicitDefEqProofs [lc, tc, t4, b2, x2, z2, x4, l16]
    refine appQ_tok (t := t) (es := L.map encCls) (es2 := [encCls c]) (by simpa [hlen] using hlive) (fun e he => by obtain ⟨p, _, rfl⟩ := List.mem_map.1 he; rfl) (by simp [srcA, lc]) (by simp [hlen]; omega) fun ta h3 p1 p2 p3 p4 => ?_
    have e2 : h3.bx (h.bn + 2) = some (.sl t (L.map encCls) :: zer16) := by rw [p3.bx _ (by simp; omega) (fun h => h)]; simp [x2, z2, b2]
    have e0 : h3.bx h.bn = some [.ptr b 0] := by rw [p3.bx _ (by simp; omega) (fun h => h)]; simp [x0, z0, b0]
    have e1 : h3.bx (h.bn + 1) = some (.sl .full [] :: zer16) := by rw [p3.bx _ (by simp; omega) (fun h => h)]; simp [x1, z1, b1]
    have n3 : h.bn + 2 < h3.bn := by rw [p4]; simp; omega
    have k3 := (k2.app hnew p3).so (b' := h.bn + 2) (by omega) hb (.sl ta (L.map encCls ++ [encCls c]) :: zer16)
    have lta : TLive h3 ta (j + 1) := by simpa [hlen] using p1
    simp -implicitDefEqProofs [t4, t9, e2, n3, l16, inc_i64 hlt (show N ≤ _ by omega), -Int.natCast_add]
    exact ih (N - (j + 1)) _ _ (by omega) ⟨j + 1, s', L ++ [c], ta, rfl, by omega, by simp [t1], by simp [t2], by simp [t4], by simp [t8], by simp, k3, hgot.bind (g1.bind (Got.pure _ _)), by simp [hlen], by simp [e0], by simp [e1], by simp, by simpa using n3, by simpa using lta, hnew.next k2.keep p2⟩
  · obtain rfl : j = N := by omega
    have t17 : List.take 17 (AV.sl t (L.map encCls) :: zer16) = AV.sl t (L.map encCls) :: zer16 := rfl
    simp -implicitDefEqProofs [t1, t4, t8, t9, b2, nb, l16, t17]
    have hq := turnedQ_ok ⟨L, List.replicate 16 0⟩ (by simp) (by simp; omega) hto.is w0 b0 z0
    refine callQ_c hq (by simp [encCtlg, zer16, List.replicate]) ?_
    rintro r h5 ⟨B, s5, rfl, q5, g5⟩
    simp only [hlen] at g5 ⊢
    have e2 : h5.bx (h.bn + 2) = some (.sl t (L.map encCls) :: zer16) := by rw [q5.keep.bx _ nb z2]; exact b2
    have e0 : h5.bx h.bn = some [.ptr b 0] := by rw [q5.keep.bx _ w0 z0]; exact b0
    have e1 : h5.bx (h.bn + 1) = some (.sl .full [] :: zer16) := by rw [q5.keep.bx _ w1 z1]; exact b1
    have n5 : h.bn + 2 < h5.bn := Nat.lt_of_lt_of_le nb q5.keep.bn
    have n50 : h.bn < h5.bn := by omega
    have n51 : h.bn + 1 < h5.bn := by omega
    have ll := lay_len j B
    have d17 : List.drop 16 zer16 = [] := rfl
    have k5 := (hto.trans q5).so (b' := h.bn + 2) (by omega) hb (.sl t (L.map encCls) :: (lay j B).map (AV.int .i64))
    have hgc : Got rdCat s ⟨L, lay j B⟩ s5 := g.bind ((by rw [Int.toNat_natCast]; exact hgot : Got (Rd.rep rdClsM (j : Int).toNat) s1 L sj).bind ((by rw [Int.toNat_natCast]; exact g5 : Got (Rd.rep (rdCount 255) ((j : Int).toNat * (j : Int).toNat)) sj B s5).bind (by rw [Int.toNat_natCast]; exact Got.pure _ _)))
    simp -implicitDefEqProofs [t1, t4, e2, e0, n5, n50, l16, ll, d17]
    refine callQ_s (rOk_ok k5.is) (by simp) ?_
    have hend : ∀ (X : H) (s6 : RS), RTo h b X s6 → catR s = none → callQ Tryz.prog (.fn 24 [] []) [.ptr b 0, .int .i64 (-1)] X fun r h2 => RFin h b h2 (catRS s) ∧ h2.bn = X.bn ∧ h2.bx (h.bn + 1) = X.bx (h.bn + 1) := fun X s6 kx hcn => by
      refine callQ_r (count_rd (most := -1) kx.is (by simp [inI])).q (by simp) fun n s7 q7 g7 => ?_
      have hs7 : s7 = none := by
        have := g7
        unfold Got at this
        cases s6 with
        | none => exact this
        | some l => cases l <;> simpa [rdCount] using this
      subst hs7
      refine ⟨?_, rfl, by simp [z1]⟩
      have : catRS s = none := by simp [catRS, hcn]
      rw [this]
      exact (kx.trans q7).fin
    have hc0 : ∀ (c0 : catR s = none), catRV s = .tup [.agg (.sl .no [] :: zer16), .bool false] := fun c0 => by simp [catRV, c0, cat0, encCtlg, zer16, List.replicate]
    have t17z : List.take 17 (AV.sl .full [] :: zer16) = AV.sl .full [] :: zer16 := rfl
    have wz : List.map wk zer16 = zer16 := by simp [zer16]
    have x1 : ¬ h.bn + 1 = h.bn + 2 := by omega
    cases s5 with
    | none =>
      have hcn := catR_none hgc
      have hrv := hc0 hcn
      simp -implicitDefEqProofs [t1, e0, n50]
      refine callQ_mono (fun r h2 ⟨r1, r2, r3⟩ => ?_) (hend _ none k5 hcn)
      have n2 : h.bn + 1 < h2.bn := by rw [r2]; exact n51
      have b2' : h2.bx (h.bn + 1) = some (.sl .full [] :: zer16) := by rw [r3]; simp [e1]
      simp -implicitDefEqProofs [t2, n2, b2', hrv, l16]
      exact ⟨rfl, r1.so (by omega) hb _⟩
    | some l =>
      have hcs := catR_some hgc
      have hwf := Got.all rdCat_all hr.bd hgc
      have tl17 : List.take 17 (AV.sl t (L.map encCls) :: (lay j B).map (AV.int .i64)) = AV.sl t (L.map encCls) :: (lay j B).map (AV.int .i64) := List.take_of_length_le (by simp [ll])
      simp -implicitDefEqProofs [t4, n5, ll, tl17]
      refine callQ_p (catMayP_ok _ hwf) (by simp [encCtlg]) ?_
      cases hcm : catMay ⟨L, lay j B⟩
      · have hcn : catR s = none := by rw [hcs, hcm]; rfl
        have hrv := hc0 hcn
        simp -implicitDefEqProofs [t1, e0, n50]
        refine callQ_mono (fun r h2 ⟨r1, r2, r3⟩ => ?_) (hend _ (some l) k5 hcn)
        have n2 : h.bn + 1 < h2.bn := by rw [r2]; exact n51
        have b2' : h2.bx (h.bn + 1) = some (.sl .full [] :: zer16) := by rw [r3]; simp [e1]
        simp -implicitDefEqProofs [t2, n2, b2', hrv, l16]
        exact ⟨rfl, r1.so (by omega) hb _⟩
      · have hcy : catR s = some (⟨L, lay j B⟩, l) := by rw [hcs, hcm]; rfl
        have hrv : catRV s = .tup [.agg (encCtlg ⟨L, lay j B⟩), .bool true] := by simp [catRV, hcy]
        have hrs : catRS s = some l := by simp [catRS, hcy]
        simp -implicitDefEqProofs [t2, t4, n5, n51, e1, ll, tl17, l16, hrv, hrs]
        exact ⟨rfl, (k5.so (by omega) hb _).fin⟩
end Go.Proofs

/- The document's reader of catalogues. -/
namespace Go.Proofs
open Go Go.RowKit Go.Am

end Go.Proofs
