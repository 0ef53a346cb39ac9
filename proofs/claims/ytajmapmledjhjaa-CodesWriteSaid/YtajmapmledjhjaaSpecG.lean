/- Items: what is written of them, by the program and by the document. -/
import Derived.Test.YtajmapmledjhjaaSpecF
namespace Go.Proofs
open Go Go.RowKit Go.Am

structure Item where
  kind : Int
  n : Int
  most : Int
  x : Int
  s : ByteArray
  l : List Nat

def inI (x : Int) : Prop := -9223372036854775808 ≤ x ∧ x ≤ 9223372036854775807
def Item.ok (x : Item) : Prop := inI x.n ∧ inI x.x ∧ x.s.size ≤ 1000 ∧ x.l.length ≤ 1000
def encI (x : Item) : List AV := [.int .i64 x.kind, .int .i64 x.n, .int .i64 x.most, .int .i64 x.x, .str x.s, encW x.l]

def writeW (x : Item) : List Nat :=
  if x.kind = 0 then [x.n.toNat] else if x.kind = 1 then [signed x.x] else if x.kind = 2 then [if x.n = 1 then 1 else 0] else if x.kind = 3 then textW x.s else x.l.length :: x.l

theorem WB.alloc {h : H} {b : Nat} {t : Tok} {ws : List Nat} (hw : WB h b t ws) (cs : List AV) : WB (h.alloc cs) b t ws :=
  ⟨by have := hw.lt; simp; omega, by have := hw.lt; have h2 : b ≠ h.bn := by omega
                                     simp [h2, hw.bx], by simpa using hw.live⟩
theorem WTo.alloc {h : H} {b : Nat} {t : Tok} {ws : List Nat} {h' : H} {t' : Tok} {cs : List AV} (q : WTo (h.alloc cs) b t ws h' t') : WTo h b t ws h' t' :=
  ⟨q.wb, q.next, (HF.alloc h cs _ _).trans q.keep⟩

theorem write_ok {h : H} {b : Nat} {t : Tok} {ws : List Nat} (hw : WB h b t ws) (x : Item) (hx : x.ok) (hl : ws.length ≤ 900000) : WAdd 16 [.ptr b 0, .agg (encI x)] h b t (ws ++ writeW x) := by
  refine SCall.run hb16 ok16 (by simp) ?_
  obtain ⟨⟨n1, n2⟩, ⟨x1, x2⟩, s1, l1⟩ := hx
  simp -implicitDefEqProofs [encI]
  by_cases k0 : x.kind = 0
  · simp -implicitDefEqProofs [k0]
    refine callW (count_ok (hw.alloc _) x.n n2 (by omega)) (by simp) fun r h' t' q => ?_
    try simp -implicitDefEqProofs
    exact ⟨t', by simpa [writeW, k0] using q.alloc⟩
  by_cases k1 : x.kind = 1
  · simp -implicitDefEqProofs [k1]
    refine callW (wsigned_ok (hw.alloc _) x.x x1 x2 (by omega)) (by simp) fun r h' t' q => ?_
    try simp -implicitDefEqProofs
    exact ⟨t', by simpa [writeW, k1] using q.alloc⟩
  by_cases k2 : x.kind = 2
  · simp -implicitDefEqProofs [k2]
    refine callW (wflag_ok (hw.alloc _) (decide (x.n = 1)) (by omega)) (by simp) fun r h' t' q => ?_
    try simp -implicitDefEqProofs
    exact ⟨t', by simpa [writeW, k2] using q.alloc⟩
  by_cases k3 : x.kind = 3
  · simp -implicitDefEqProofs [k3]
    refine callW (wtext_ok (hw.alloc _) x.s (by omega)) (by simp) fun r h' t' q => ?_
    try simp -implicitDefEqProofs
    exact ⟨t', by simpa [writeW, k3] using q.alloc⟩
  · simp -implicitDefEqProofs [k0, k1, k2, k3]
    refine callW (wwords_ok (hw.alloc _) x.l (by omega)) (by simp) fun r h' t' q => ?_
    try simp -implicitDefEqProofs
    exact ⟨t', by simpa [writeW, k0, k1, k2, k3] using q.alloc⟩

/-- A slice of words that grows. -/
structure STo (h : H) (t : Tok) (ws : List Nat) (r : AV) (h' : H) (t' : Tok) : Prop where
  val : r = .sl t' (ws.map w64)
  live : TLive h' t' ws.length
  next : TNext h t t'
  keep : HF h h' (fun _ => False) (TOwn t)

theorem refWrite_ok {h : H} {t : Tok} {ws : List Nat} (ht : TLive h t ws.length) (x : Item) (hx : x.ok) (hl : ws.length ≤ 900000) : ∃ r h', SCall Try.prog 17 [.sl t (ws.map w64), .agg (encI x)] h r h' ∧ ∃ t', STo h t (ws ++ writeW x) r h' t' := by
  refine SCall.run hb17 ok17 (by simp) ?_
  obtain ⟨⟨n1, n2⟩, ⟨x1, x2⟩, s1, l1⟩ := hx
  have hta : ∀ cs, TLive (h.alloc cs) t ws.length := fun cs => by simpa using ht
  have fin : ∀ {cs : List AV} {us : List Nat} {t' : Tok} {h' : H}, TLive h' t' (ws ++ us).length → TNext (h.alloc cs) t t' → HF (h.alloc cs) h' (fun _ => False) (TOwn t) → STo h t (ws ++ us) (.sl t' ((ws ++ us).map w64)) h' t' := fun q1 q2 q3 => ⟨rfl, q1, q2, (HF.alloc h _ _ _).trans q3⟩
  simp -implicitDefEqProofs [encI]
  by_cases k0 : x.kind = 0
  · simp -implicitDefEqProofs [k0]
    by_cases hn : x.n < 0
    · simp -implicitDefEqProofs [hn]
      refine appQ_w ws [0] rfl (by simp [w64]) (hta _) (by simp; omega) fun t' h' q1 q2 q3 q4 => ?_
      try simp -implicitDefEqProofs
      exact ⟨t', by simpa [writeW, k0, show x.n.toNat = 0 by omega] using fin q1 q2 q3⟩
    · have hw : IntKind.u64.wrap x.n = x.n := wrap_u64 (by omega) (by omega)
      simp -implicitDefEqProofs [hn, hw]
      refine appQ_w ws [x.n.toNat] rfl (by simp [w64]; omega) (hta _) (by simp; omega) fun t' h' q1 q2 q3 q4 => ?_
      try simp -implicitDefEqProofs
      exact ⟨t', by simpa [writeW, k0] using fin q1 q2 q3⟩
  by_cases k1 : x.kind = 1
  · simp -implicitDefEqProofs [k1]
    refine callQ_p (refSigned_ok x.x x1 x2) (by simp) ?_
    try simp -implicitDefEqProofs
    refine appQ_w ws [signed x.x] rfl (by simp [w64]) (hta _) (by simp; omega) fun t' h' q1 q2 q3 q4 => ?_
    try simp -implicitDefEqProofs
    exact ⟨t', by simpa [writeW, k1] using fin q1 q2 q3⟩
  by_cases k2 : x.kind = 2
  · simp -implicitDefEqProofs [k2]
    by_cases hn : x.n = 1
    · simp -implicitDefEqProofs [hn]
      refine appQ_w ws [1] rfl (by simp [w64]) (hta _) (by simp; omega) fun t' h' q1 q2 q3 q4 => ?_
      try simp -implicitDefEqProofs
      exact ⟨t', by simpa [writeW, k2, hn] using fin q1 q2 q3⟩
    · simp -implicitDefEqProofs [hn]
      refine appQ_w ws [0] rfl (by simp [w64]) (hta _) (by simp; omega) fun t' h' q1 q2 q3 q4 => ?_
      try simp -implicitDefEqProofs
      exact ⟨t', by simpa [writeW, k2, hn] using fin q1 q2 q3⟩
  by_cases k3 : x.kind = 3
  · have hfin3 : ∀ (h1 : H) (s2 : Slots), h1 = h1 → True := fun _ _ _ => trivial
    have hpl := packed_len (cut64 x.s)
    have hc := cut64_size x.s
    simp -implicitDefEqProofs [k3]
    by_cases hn : 64 < x.s.size
    · have e2 : bndOf (some (.int .i64 64)) x.s.size x.s.size = some 64 := by
        simp only [bndOf]
        rw [if_pos (by omega)]
        simp
      have e3 : bndOf none 64 0 = some 0 := rfl
      have e4 : x.s.extract 0 64 = cut64 x.s := by simp only [cut64]; rw [show min x.s.size 64 = 64 by omega]
      have e5 : (cut64 x.s).size = 64 := by omega
      have e6 : IntKind.u64.wrap 64 = 64 := wrap_u64 (by omega) (by omega)
      have hn' : (64 : Int) < (x.s.size : Int) := by omega
      simp -implicitDefEqProofs [hn', e2, e3, e4, e5, e6, -bndOf]
      refine appQ_w ws [64] rfl (by simp [w64]) (hta _) (by simp; omega) fun t' h' q1 q2 q3 q4 => ?_
      try simp -implicitDefEqProofs
      refine callQ_p (refPacked_ok (cut64 x.s) (by omega)) (by simp) ?_
      try simp -implicitDefEqProofs
      refine appQ_w (ws ++ [64]) (packed (cut64 x.s)) (by simp) rfl q1 (by simp; omega) fun t'' h'' r1 r2 r3 r4 => ?_
      try simp -implicitDefEqProofs
      refine ⟨t'', ?_⟩
      have hf := q3.trans' r3 (fun _ _ h => h) (TOwn.next (B := fun _ => False) (T := fun _ => False) (h1 := h') q2)
      have := fin (us := 64 :: packed (cut64 x.s)) (by simpa using r1) (q2.trans q3 r2) hf
      simpa [writeW, k3, textW, e5] using this
    · have e4 : x.s = cut64 x.s := by simp only [cut64]; rw [show min x.s.size 64 = x.s.size by omega, ByteArray.extract_zero_size]
      have e6 : IntKind.u64.wrap (x.s.size : Int) = (x.s.size : Int) := wrap_u64 (by omega) (by omega)
      have hn' : ¬ (64 : Int) < (x.s.size : Int) := by omega
      simp -implicitDefEqProofs [hn', e6]
      refine appQ_w ws [x.s.size] rfl (by simp [w64]) (hta _) (by simp; omega) fun t' h' q1 q2 q3 q4 => ?_
      try simp -implicitDefEqProofs
      refine callQ_p (refPacked_ok x.s (by omega)) (by simp) ?_
      try simp -implicitDefEqProofs
      have hpl' := packed_len x.s
      refine appQ_w (ws ++ [x.s.size]) (packed x.s) (by simp) rfl q1 (by simp; omega) fun t'' h'' r1 r2 r3 r4 => ?_
      try simp -implicitDefEqProofs
      refine ⟨t'', ?_⟩
      have hf := q3.trans' r3 (fun _ _ h => h) (TOwn.next (B := fun _ => False) (T := fun _ => False) (h1 := h') q2)
      have := fin (us := x.s.size :: packed x.s) (by simpa using r1) (q2.trans q3 r2) hf
      simpa [writeW, k3, textW, ← e4] using this
  · simp -implicitDefEqProofs [k0, k1, k2, k3]
    refine run_dreg c17_d18 ?_
    have e6 : IntKind.u64.wrap (x.l.length : Int) = (x.l.length : Int) := wrap_u64 (by omega) (by omega)
    simp -implicitDefEqProofs [e6]
    refine appQ_w ws [x.l.length] rfl (by simp [w64]) (hta _) (by simp; omega) fun t' h' q1 q2 q3 q4 => ?_
    have hbx := q3.bx h.bn (by simp) (fun h => h)
    have hbn : h'.bn = h.bn + 1 := by rw [q4]; rfl
    simp -implicitDefEqProofs at hbx
    simp -implicitDefEqProofs [hbx, hbn]
    refine appQ_w (ws ++ [x.l.length]) x.l (by simp) rfl q1 (by simp; omega) fun t'' h'' r1 r2 r3 r4 => ?_
    have hbx2 := r3.bx h.bn (by omega) (fun h => h)
    rw [hbx] at hbx2
    have hbn2 : h''.bn = h.bn + 1 := by rw [r4, hbn]
    simp -implicitDefEqProofs [hbx, hbn, hbx2, hbn2]
    refine ⟨t'', ?_⟩
    have hf := q3.trans' r3 (fun _ _ h => h) (TOwn.next (B := fun _ => False) (T := fun _ => False) (h1 := h') q2)
    have := fin (us := x.l.length :: x.l) (by simpa using r1) (q2.trans q3 r2) hf
    simpa [writeW, k0, k1, k2, k3] using this
end Go.Proofs
