/- What the functions that the statement reaches do: their contracts; and what follows of it. -/
import Derived.Test.YtdcpendppalkgaaSRecsCut12
/- The drawn region in which RecsCut makes a frame: the new box may be made at any time. -/
namespace Go.Proofs
open Go Go.RowKit Go.Am

def vCut (k : Int) (W more : List Nat) (n : Nat) (i : Nat) : AV := match i with
  | 0 => .ptr 1 0 | 1 => .int .i64 k | 2 => .sl .full [] | 3 => .ptr 1 1 | 4 => encW W | 5 => .int .i64 n | 6 => .sl .no ((W.take n).map w64) | _ => encW more
structure CutI (k : Int) (W more : List Nat) (n : Nat) (s : Slots) (h : H) (done : List Nat) (S : Slots) (h' : H) : Prop where
  d0 : ∀ i ∈ done, i < 13
  d1 : ∀ i ∈ done, ∀ j ∈ c7_a8.getD i [], j ∈ done
  un : ∀ y, y ≠ 9 → (y < 37 ∨ 47 < y) → S y = s y
  v : ∀ i ∈ done, i ≠ 7 → i < 9 → S (37 + i) = vCut k W more n i
  p7 : 7 ∈ done → ∃ t, S 44 = .sl t ((W.take n).map w64) ∧ (9 ∉ done → TLive h' t ((W.take n).map w64).length)
  p9 : 9 ∈ done → ∃ t, S 46 = .sl t ((W.take n ++ more).map w64)
  p10 : 10 ∈ done → ∃ t, S 47 = .agg [.int .i64 k, .sl t ((W.take n ++ more).map w64)]
  b1 : h'.bx 1 = some [.int .i64 k, encW W]
  bn : h'.bn = if 11 ∈ done then h.bn + 1 else h.bn
  al : 11 ∈ done → S 9 = .ptr h.bn 0 ∧ (12 ∉ done → h'.bx h.bn = some [.int .i64 0, .sl .full []]) ∧ (12 ∈ done → ∃ t, h'.bx h.bn = some [.int .i64 k, .sl t ((W.take n ++ more).map w64)])

theorem CutI.cl {k : Int} {W more : List Nat} {n : Nat} {s : Slots} {h : H} {done : List Nat} {S : Slots} {h' : H} (I : CutI k W more n s h done S h') {i : Nat} (ha : ∀ j ∈ c7_a8.getD i [], j ∈ done) : ∀ m ∈ i :: done, ∀ j ∈ c7_a8.getD m [], j ∈ i :: done := fun m hm j hj => by
  rcases List.mem_cons.1 hm with rfl | hm
  · exact List.mem_cons_of_mem _ (ha j hj)
  · exact List.mem_cons_of_mem _ (I.d1 m hm j hj)
theorem CutI.lt {k : Int} {W more : List Nat} {n : Nat} {s : Slots} {h : H} {done : List Nat} {S : Slots} {h' : H} (I : CutI k W more n s h done S h') {i : Nat} (hi : i < 13) : ∀ m ∈ i :: done, m < 13 := fun m hm => by
  rcases List.mem_cons.1 hm with rfl | hm
  · exact hi
  · exact I.d0 m hm
theorem CutI.pure {k : Int} {W more : List Nat} {n : Nat} {s : Slots} {h : H} {done : List Nat} {S : Slots} {h' : H} (I : CutI k W more n s h done S h') {i : Nat} (h7 : i ≠ 7) (h9 : i < 9) (ha : ∀ j ∈ c7_a8.getD i [], j ∈ done) : CutI k W more n s h (i :: done) (put S (some (37 + i)) (vCut k W more n i)) h' := by
  have e : ∀ m, m ≠ i → (m ∈ i :: done ↔ m ∈ done) := fun m hm => by simp [hm]
  have e7 := e 7 (Ne.symm h7)
  have e9 := e 9 (by omega)
  have e10 := e 10 (by omega)
  have e11 := e 11 (by omega)
  have e12 := e 12 (by omega)
  refine ⟨I.lt (by omega), I.cl ha, fun y h1 h2 => ?_, fun m hm m7 m9 => ?_, fun hm => ?_, fun hm => ?_, fun hm => ?_, I.b1, ?_, fun hm => ?_⟩
  · simp only [put]; rw [su_ne (by omega)]; exact I.un y h1 h2
  · simp only [put]
    by_cases hmi : m = i
    · subst hmi; simp
    · rw [su_ne (by omega)]
      exact I.v m ((e m hmi).1 hm) m7 m9
  · simp only [put]; rw [su_ne (by omega), e9]; exact I.p7 (e7.1 hm)
  · simp only [put]; rw [su_ne (by omega)]; exact I.p9 (e9.1 hm)
  · simp only [put]; rw [su_ne (by omega)]; exact I.p10 (e10.1 hm)
  · rw [I.bn]; simp only [e11]
  · simp only [put]; rw [su_ne (by omega), e12]; exact I.al (e11.1 hm)

set_option maxHeartbeats 4000000 in
theorem cut_d8 {k : Int} {W more : List Nat} {n : Nat} {s : Slots} {h : H} (hn : n ≤ W.length) (hW : W.length ≤ 1000) (hM : more.length ≤ 1000) (s2 : s 2 = encW more) (s7 : s 7 = .ptr 1 0) (s8 : s 8 = .int .i64 n) (hb : 1 < h.bn) (hb1 : h.bx 1 = some [.int .i64 k, encW W]) {inr : Bool} {kk : List It} {Q : Res → Slots → H → Prop}
    (hk : ∀ S h' t, (∀ y, y ≠ 9 → (y < 37 ∨ 47 < y) → S y = s y) → S 9 = .ptr h.bn 0 → h'.bn = h.bn + 1 → h'.bx h.bn = some [.int .i64 k, .sl t ((W.take n ++ more).map w64)] → Run Try.prog inr kk Q S h') :
    Run Try.prog inr (.c (.dreg c7_r8 c7_a8) :: kk) Q s h := by
  refine run_topo (Inv := CutI k W more n s h) ?_ ?_ ?_
  rotate_left
  · exact ⟨by simp, by simp, fun _ _ _ => rfl, by simp, by simp, by simp, by simp, hb1, by simp, by simp⟩
  · intro done S h' hall I
    have a : ∀ i, i < 13 → i ∈ done := hall
    obtain ⟨q1, q2, q3⟩ := I.al (a 11 (by decide))
    obtain ⟨t, q4⟩ := q3 (a 12 (by decide))
    exact hk S h' t I.un q1 (by rw [I.bn, if_pos (a 11 (by decide))]) q4
  · intro i x done S h' hx hnd haft I
    have hi : i < 13 := (List.getElem?_eq_some_iff.1 hx).1
    have lt1 : 1 < h'.bn := by rw [I.bn]; split <;> omega
    have u2 : S 2 = encW more := by rw [I.un 2 (by decide) (by decide), s2]
    have u7 : S 7 = .ptr 1 0 := by rw [I.un 7 (by decide) (by decide), s7]
    have u8 : S 8 = .int .i64 n := by rw [I.un 8 (by decide) (by decide), s8]
    have b1 := I.b1
    have hcl := I.cl haft
    have hlt := I.lt hi
    have cl9 : 9 ∈ done → 7 ∈ done := fun hm => I.d1 9 hm 7 (by decide)
    have cl10 : 10 ∈ done → 9 ∈ done := fun hm => I.d1 10 hm 9 (by decide)
    have cl12 : 12 ∈ done → 11 ∈ done := fun hm => I.d1 12 hm 11 (by decide)
    have cl12' : 12 ∈ done → 10 ∈ done := fun hm => I.d1 12 hm 10 (by decide)
    have e : ∀ m, m ≠ i → (m ∈ i :: done ↔ m ∈ done) := fun m hm => by simp [hm]
    rcases (by omega : i = 0 ∨ i = 1 ∨ i = 2 ∨ i = 3 ∨ i = 4 ∨ i = 5 ∨ i = 6 ∨ i = 7 ∨ i = 8 ∨ i = 9 ∨ i = 10 ∨ i = 11 ∨ i = 12) with rfl | rfl | rfl | rfl | rfl | rfl | rfl | rfl | rfl | rfl | rfl | rfl | rfl
    · cases hx
      exact ⟨vCut k W more n 0, h', rfl, .pure _ _ (by simp [u7, vCut]), I.pure (by decide) (by decide) haft⟩
    · cases hx
      have v0 : S 37 = .ptr 1 0 := I.v 0 (haft 0 (by decide)) (by decide) (by decide)
      exact ⟨vCut k W more n 1, h', rfl, .pure _ _ (by simp [v0, b1, lt1, vCut]), I.pure (by decide) (by decide) haft⟩
    · cases hx
      exact ⟨vCut k W more n 2, h', rfl, .pure _ _ (by simp [vCut]), I.pure (by decide) (by decide) haft⟩
    · cases hx
      exact ⟨vCut k W more n 3, h', rfl, .pure _ _ (by simp [u7, vCut]), I.pure (by decide) (by decide) haft⟩
    · cases hx
      have v3 : S 40 = .ptr 1 1 := I.v 3 (haft 3 (by decide)) (by decide) (by decide)
      exact ⟨vCut k W more n 4, h', rfl, .pure _ _ (by simp [v3, b1, lt1, vCut]), I.pure (by decide) (by decide) haft⟩
    · cases hx
      exact ⟨vCut k W more n 5, h', rfl, .pure _ _ (by simp [u8, vCut]), I.pure (by decide) (by decide) haft⟩
    · cases hx
      have v4 : S 41 = encW W := I.v 4 (haft 4 (by decide)) (by decide) (by decide)
      have v5 : S 42 = .int .i64 n := I.v 5 (haft 5 (by decide)) (by decide) (by decide)
      exact ⟨vCut k W more n 6, h', rfl, .pure _ _ (by simp [v4, v5, vCut, encW, hn]), I.pure (by decide) (by decide) haft⟩
    · cases hx
      have v2 : S 39 = .sl .full [] := I.v 2 (haft 2 (by decide)) (by decide) (by decide)
      have v6 : S 43 = .sl .no ((W.take n).map w64) := I.v 6 (haft 6 (by decide)) (by decide) (by decide)
      have m9 : 9 ∉ done := fun hm => hnd (cl9 hm)
      have hq : appQ h' 1 8 (.sl .full []) (.sl .no ((W.take n).map w64)) fun v h2 => ∃ t', v = .sl t' ((W.take n).map w64) ∧ TLive h2 t' ((W.take n).map w64).length ∧ HF h' h2 (fun _ => False) (TOwn .full) ∧ h2.bn = h'.bn := by
        refine appQ_tok (t := .full) (es := []) (es2 := (W.take n).map w64) trivial (by simp) (by simp [srcA]; exact fun e he => by obtain ⟨w, _, rfl⟩ := List.mem_map.1 (List.mem_of_mem_take he); rfl) (by simp; omega) fun t' h2 p1 _ p3 p4 => ⟨t', by simp, by simpa using p1, p3, p4⟩
      obtain ⟨v, h2, ha, t', rfl, p1, p3, p4⟩ := hq
      refine ⟨_, h2, rfl, .append _ _ _ _ _ _ (by simpa [v2, v6] using ha), hlt, hcl, fun y h1 h2 => ?_, fun m hm m7 m9 => ?_, fun _ => ⟨t', by simp, fun _ => p1⟩, fun hm => absurd ((e 9 (by decide)).1 hm) m9, fun hm => absurd (cl10 ((e 10 (by decide)).1 hm)) m9, ?_, ?_, fun hm => ?_⟩
      · simp only [put]; rw [su_ne (by omega)]; exact I.un y h1 h2
      · simp only [put]; rw [su_ne (by omega)]; exact I.v m ((e m m7).1 hm) m7 m9
      · rw [p3.bx 1 lt1 fun h => h, b1]
      · rw [p4, I.bn]; simp only [e 11 (by decide)]
      · have m12 : 12 ∉ done := fun hm => m9 (cl10 (cl12' hm))
        have hm := (e 11 (by decide)).1 hm
        obtain ⟨q1, q2, q3⟩ := I.al hm
        have hl : h.bn < h'.bn := by rw [I.bn, if_pos hm]; omega
        refine ⟨by simp only [put]; rw [su_ne (by omega)]; exact q1, fun _ => by rw [p3.bx _ hl fun h => h]; exact q2 m12, fun hm => absurd ((e 12 (by decide)).1 hm) m12⟩
    · cases hx
      exact ⟨vCut k W more n 8, h', rfl, .pure _ _ (by simp [u2, vCut]), I.pure (by decide) (by decide) haft⟩
    · cases hx
      have m10 : 10 ∉ done := fun hm => hnd (cl10 hm)
      obtain ⟨t, w1, w2⟩ := I.p7 (haft 7 (by decide))
      have w2 := w2 hnd
      have v8 : S 45 = encW more := I.v 8 (haft 8 (by decide)) (by decide) (by decide)
      have hq : appQ h' 1 8 (.sl t ((W.take n).map w64)) (encW more) fun v h2 => ∃ t', v = .sl t' ((W.take n ++ more).map w64) ∧ HF h' h2 (fun _ => False) (TOwn t) ∧ h2.bn = h'.bn := by
        refine appQ_tok (t := t) (es := (W.take n).map w64) (es2 := more.map w64) w2 (by simp; exact fun e he => by obtain ⟨w, _, rfl⟩ := List.mem_map.1 (List.mem_of_mem_take he); rfl) (by simp [srcA, encW, w64]) (by simp; omega) fun t' h2 _ _ p3 p4 => ⟨t', by simp, p3, p4⟩
      obtain ⟨v, h2, ha, t', rfl, p3, p4⟩ := hq
      refine ⟨_, h2, rfl, .append _ _ _ _ _ _ (by simpa [w1, v8] using ha), hlt, hcl, fun y h1 h2 => ?_, fun m hm m7 m9 => ?_, fun hm => ⟨t, by simp only [put]; rw [su_ne (by omega)]; exact w1, fun hm => absurd (List.mem_cons_self ..) hm⟩, fun hm => ⟨t', by simp⟩, fun hm => absurd ((e 10 (by decide)).1 hm) m10, ?_, ?_, fun hm => ?_⟩
      · simp only [put]; rw [su_ne (by omega)]; exact I.un y h1 h2
      · simp only [put]; rw [su_ne (by omega)]; exact I.v m ((e m (by omega)).1 hm) m7 m9
      · rw [p3.bx 1 lt1 fun h => h, b1]
      · rw [p4, I.bn]; simp only [e 11 (by decide)]
      · have m12 : 12 ∉ done := fun hm => m10 (cl12' hm)
        have hm := (e 11 (by decide)).1 hm
        obtain ⟨q1, q2, q3⟩ := I.al hm
        have hl : h.bn < h'.bn := by rw [I.bn, if_pos hm]; omega
        refine ⟨by simp only [put]; rw [su_ne (by omega)]; exact q1, fun _ => by rw [p3.bx _ hl fun h => h]; exact q2 m12, fun hm => absurd ((e 12 (by decide)).1 hm) m12⟩
    · cases hx
      obtain ⟨t, w1⟩ := I.p9 (haft 9 (by decide))
      have v1 : S 38 = .int .i64 k := I.v 1 (haft 1 (by decide)) (by decide) (by decide)
      have m12 : 12 ∉ done := fun hm => hnd (cl12' hm)
      refine ⟨.agg [.int .i64 k, .sl t ((W.take n ++ more).map w64)], h', rfl, .pure _ _ (by simp [w1, v1]), hlt, hcl, fun y h1 h2 => ?_, fun m hm m7 m9 => ?_, fun hm => ?_, fun hm => ?_, fun hm => ⟨t, by simp⟩, b1, ?_, fun hm => ?_⟩
      · simp only [put]; rw [su_ne (by omega)]; exact I.un y h1 h2
      · simp only [put]; rw [su_ne (by omega)]; exact I.v m ((e m (by omega)).1 hm) m7 m9
      · simp only [put]; rw [su_ne (by omega), e 9 (by decide)]; exact I.p7 ((e 7 (by decide)).1 hm)
      · simp only [put]; rw [su_ne (by omega)]; exact I.p9 ((e 9 (by decide)).1 hm)
      · rw [I.bn]; simp only [e 11 (by decide)]
      · simp only [put]; rw [su_ne (by omega), e 12 (by decide)]; exact I.al ((e 11 (by decide)).1 hm)
    · cases hx
      have m12 : 12 ∉ done := fun hm => hnd (cl12 hm)
      have hbn : h'.bn = h.bn := by rw [I.bn, if_neg hnd]
      refine ⟨.ptr h'.bn 0, h'.alloc [.int .i64 0, .sl .full []], rfl, .alloc _, hlt, hcl, fun y h1 h2 => ?_, fun m hm m7 m9 => ?_, fun hm => ?_, fun hm => ?_, fun hm => ?_, ?_, ?_, fun hm => ⟨by simp [hbn], fun _ => by simp [hbn], fun hm => absurd ((e 12 (by decide)).1 hm) m12⟩⟩
      · simp only [put]; rw [su_ne (by omega)]; exact I.un y h1 h2
      · simp only [put]; rw [su_ne (by omega)]; exact I.v m ((e m (by omega)).1 hm) m7 m9
      · simp only [put]; rw [su_ne (by omega), e 9 (by decide)]; simpa using I.p7 ((e 7 (by decide)).1 hm)
      · simp only [put]; rw [su_ne (by omega)]; exact I.p9 ((e 9 (by decide)).1 hm)
      · simp only [put]; rw [su_ne (by omega)]; exact I.p10 ((e 10 (by decide)).1 hm)
      · simp [b1, show ¬ 1 = h'.bn by omega]
      · simp [hbn]
    · cases hx
      have m11 : 11 ∈ done := haft 11 (by decide)
      obtain ⟨t, w1⟩ := I.p10 (haft 10 (by decide))
      obtain ⟨q1, q2, q3⟩ := I.al m11
      have q2 := q2 hnd
      have hbn : h'.bn = h.bn + 1 := by rw [I.bn, if_pos m11]
      refine ⟨_, _, rfl, .store 2 _ _ h.bn 0 [.int .i64 0, .sl .full []] [.int .i64 k, .sl t ((W.take n ++ more).map w64)] (by simp [q1]) (by omega) q2 (by simp [w1]) (by decide), hlt, hcl, fun y h1 h2 => I.un y h1 h2, fun m hm m7 m9 => I.v m ((e m (by omega)).1 hm) m7 m9, fun hm => ?_, fun hm => I.p9 ((e 9 (by decide)).1 hm), fun hm => I.p10 ((e 10 (by decide)).1 hm), ?_, ?_, fun hm => ⟨q1, fun hm => absurd (List.mem_cons_self ..) hm, fun _ => ⟨t, by simp⟩⟩⟩
      · rw [e 9 (by decide)]; simpa using I.p7 ((e 7 (by decide)).1 hm)
      · simp [b1, show ¬ 1 = h.bn by omega]
      · simp [hbn, m11]
end Go.Proofs

/- The statement RecsCut. -/
namespace Go.Proofs
open Go Go.RowKit Go.Am

theorem sh_u8 {v : AV} (h : Sh.is (.int .u8) v) : ∃ n : Int, v = .int .u8 n ∧ (0 ≤ n ∧ n ≤ 255) := by
  obtain ⟨n, rfl, h⟩ := h
  refine ⟨n, rfl, ?_⟩
  simp [Lit.wf, IntKind.min, IntKind.max, IntKind.signed, IntKind.bits] at h
  omega

set_option maxHeartbeats 4000000 in
theorem recsCut_ok (x : Recd) (cut : Int) (more : List Nat) (wx : x.wf) (hc : 0 ≤ cut ∧ cut ≤ 255) (hmo : more.length ≤ maxLen ∧ ∀ w ∈ more, w < 18446744073709551616) : PCall Try.prog 7 [.agg (encRecd x), .int .u8 cut, encW more] (.bool true) := by
  have p := pures3 (.agg (pure_encRecd x)) (.int .u8 cut) (pure_w64 more)
  have hg := greatR_ok x wx
  have hm := refMay_ok x wx
  have hq := refPut_ok x wx
  have hre := wx.2.2.2.2.2.2.1.1
  have la := encRecd_len wx
  have ta : List.take 16 (encRecd x) = encRecd x := List.take_of_length_le (by omega)
  have wka : List.map Am.wk (encRecd x) = encRecd x := by simp
  generalize encRecd x = A at *
  refine PCall.run hb7 ok7 (by simp) p (.bool _) ?_
  simp -implicitDefEqProofs [H.nil]
  refine callQ_p alive20_ok (by simp) ?_
  simp -implicitDefEqProofs [la, ta]
  refine callQ_p hg (by simp [wka]) ?_
  cases g : greatR x
  rotate_left
  · simp -implicitDefEqProofs []
  obtain ⟨a1, a2, a3, a4⟩ := not_greatR g
  have hm := hm (by omega) (by omega) (by omega)
  have hq := hq (by omega) (by omega) (by omega) (by omega)
  have hlt := recW_lt wx (by omega) (by omega) (by omega) (by omega)
  simp -implicitDefEqProofs [la, ta]
  refine callQ_p hm (by simp [wka]) ?_
  cases m : recMay x
  · simp -implicitDefEqProofs []
  by_cases h50 : (50 : Int) < more.length
  · simp -implicitDefEqProofs [h50]
  simp -implicitDefEqProofs [h50, la, ta]
  refine callQ_p hq (by simp [wka]) ?_
  obtain ⟨b1, b2⟩ := recW_most m hre
  generalize hW : recW x = W at *
  obtain ⟨c, rfl⟩ := Int.eq_ofNat_of_zero_le hc.1
  obtain ⟨n, hn, hnl⟩ : ∃ n : Nat, ((c : Int).tmod ((W.length : Int) + 1)) = n ∧ n ≤ W.length := ⟨c % (W.length + 1), by rw [Int.tmod_eq_emod_of_nonneg (by omega), Int.natCast_emod, Int.natCast_add]; rfl, by have := Nat.mod_lt c (show 0 < W.length + 1 by omega); omega⟩
  have w1 : IntKind.i64.wrap (W.length + 1 : Int) = (W.length + 1 : Int) := wrap_i64 (by omega) (by omega)
  have w2 : IntKind.i64.wrap (c : Int) = (c : Int) := wrap_i64 (by omega) (by omega)
  have w3 : IntKind.i64.wrap (n : Int) = (n : Int) := wrap_i64 (by omega) (by omega)
  have z : ¬ (W.length + 1 : Int) = 0 := by omega
  simp -implicitDefEqProofs [w1, w2, z, hn]
  refine cut_d8 (k := x.kind) (W := W) (more := more) (n := n) hnl (by omega) (by omega) (by simp) (by simp) (by simp) (by simp) (by simp) fun S h' t un t9 hbn hbx => ?_
  have hl9 : (W.take n ++ more).length ≤ 200 := by
    rw [List.length_append, List.length_take]
    omega
  have hg9 : (⟨x.kind, W.take n ++ more⟩ : Frm).wf := ⟨wx.1, by simp only [maxLen]; omega, fun w hw => by
    rcases List.mem_append.1 hw with hw | hw
    · exact hlt w (List.mem_of_mem_take hw)
    · exact hmo.2 w hw⟩
  have hgt := recGet_ok ⟨x.kind, W.take n ++ more⟩ hg9 (by simp only; omega)
  have hn9 : 2 < h'.bn := by rw [hbn]; simp
  have hbn3 : h'.bn = 3 := by rw [hbn]; simp
  simp at t9 hbx
  simp -implicitDefEqProofs [t9, hbx, hn9]
  cases hr : recGet ⟨x.kind, W.take n ++ more⟩ with
  | none =>
    rw [hr, getV] at hgt
    refine callQ_p hgt (by simp [encFrm]) ?_
    simp -implicitDefEqProofs [encRecd, rec0, nod0]
  | some y =>
    obtain ⟨y1, y2, y3⟩ := recGet_put hr
    have few := recGet_few hg9 hr
    have wy := few.1
    have hp := recPut_ok y wy (by have := few.2.1; omega) (by have := few.2.2.1; omega) (by have := few.2.2.2.1; omega) (by have := few.2.2.2.2; omega)
    have e : putV y = .tup [.agg [.int .i64 y.kind, encW (recW y)], .bool true] := by rw [putV, if_pos y1]
    rw [e, y2, y3] at hp
    rw [hr, getV] at hgt
    simp only at hgt hp
    have lb := encRecd_len wy
    have tb : List.take 16 (encRecd y) = encRecd y := List.take_of_length_le (by omega)
    have wkb : List.map Am.wk (encRecd y) = encRecd y := by simp
    clear few wy y1 y2 y3 e hr
    generalize encRecd y = B at *
    have hfs := frmSame_ok ⟨x.kind, W.take n ++ more⟩ ⟨x.kind, W.take n ++ more⟩ (by simp only; omega) (by simp only; omega)
    rw [decide_eq_true rfl] at hfs
    refine callQ_p hgt (by simp [encFrm]) ?_
    simp -implicitDefEqProofs [lb, tb]
    refine callQ_p hp (by simp [wkb]) ?_
    simp -implicitDefEqProofs [t9, hbx, hbn3]
    refine callQ_p hfs (by simp [encFrm]) ?_
    simp -implicitDefEqProofs []
end Go.Proofs
