/- What the functions that the statement reaches do: their contracts; and what follows of it. -/
import Derived.Test.YtdcpendppalkgaaSRecsGet11
import Derived.Test.YtdcpendppalkgaaSRecsGet12
import Derived.Test.YtdcpendppalkgaaSRecsGet8
import Derived.Test.YtdcpendppalkgaaSRecsGet4
/- A record that is read whole is written as the words that were read: plain law. -/
namespace Go.Proofs
open Go Go.RowKit Go.Am

/-- What is read is written as the words that were read. -/
def RdEx {α : Type} (p : Rd α) (W : α → List Nat) : Prop := ∀ l a l', p l = some (a, l') → l = W a ++ l'
theorem RdEx.bind {α β : Type} {p : Rd α} {q : α → Rd β} {W : α → List Nat} {V : β → List Nat} (hp : RdEx p W) (hq : ∀ (a : α) (l : List Nat) (b : β) (l' : List Nat), p (W a ++ l) = some (a, l) → q a l = some (b, l') → W a ++ l = V b ++ l') : RdEx (p.bind q) V := fun l b l' h => by
  unfold Rd.bind at h
  cases hpl : p l with
  | none => rw [hpl] at h; cases h
  | some x =>
    obtain ⟨a, l1⟩ := x
    rw [hpl] at h
    have e := hp _ _ _ hpl
    rw [e]
    exact hq a l1 b l' (by rw [← e]; exact hpl) h
theorem ex_count (most : Int) : RdEx (rdCount most) fun n => [n.toNat] := fun l a l' h => by
  cases l with
  | nil => cases h
  | cons w r =>
    have e : rdCount most (w :: r) = if 0 ≤ most ∧ (w : Int) ≤ most then some ((w : Int), r) else none := rfl
    rw [e] at h
    split at h
    · cases h; simp
    · cases h
theorem signed_backI (w : Nat) : signed (backI w) = w := by
  unfold backI signed
  split <;> split <;> omega
theorem ex_signed : RdEx rdSigned fun n => [signed n] := fun l a l' h => by
  cases l with
  | nil => cases h
  | cons w r =>
    have e : rdSigned (w :: r) = some (backI w, r) := rfl
    rw [e] at h
    cases h
    simp [signed_backI]
theorem ex_flag : RdEx rdFlag fun b => [if b then 1 else 0] := fun l a l' h => by
  cases l with
  | nil => simp [rdFlag, rdCount] at h
  | cons w r =>
    have e : rdFlag (w :: r) = (if 0 ≤ (1 : Int) ∧ (w : Int) ≤ 1 then some ((w : Int), r) else none).map fun p => (decide (p.1 = 1), p.2) := rfl
    rw [e] at h
    by_cases hc : 0 ≤ (1 : Int) ∧ (w : Int) ≤ 1
    · rw [if_pos hc] at h
      simp only [Option.map_some, Option.some.injEq, Prod.mk.injEq] at h
      obtain ⟨h1, h2⟩ := h
      subst h1 h2
      have : w = 0 ∨ w = 1 := by omega
      rcases this with rfl | rfl <;> rfl
    · rw [if_neg hc] at h
      cases h
theorem rep_len {α : Type} (p : Rd α) : ∀ (n : Nat) (l : List Nat) (L : List α) (l' : List Nat), Rd.rep p n l = some (L, l') → L.length = n
  | 0, l, L, l', h => by cases h; rfl
  | n + 1, l, L, l', h => by
    unfold Rd.rep Rd.bind at h
    cases h1 : Rd.rep p n l with
    | none => rw [h1] at h; cases h
    | some x =>
      obtain ⟨L1, l1⟩ := x
      rw [h1] at h
      simp only [Option.bind_some] at h
      have hl := rep_len p n l L1 l1 h1
      cases h2 : p l1 with
      | none => rw [h2] at h; cases h
      | some y =>
        obtain ⟨a, l2⟩ := y
        rw [h2] at h
        cases h
        simp [hl]
theorem ex_rep {α : Type} {p : Rd α} {W : α → List Nat} (hp : RdEx p W) : ∀ n : Nat, RdEx (Rd.rep p n) fun L => L.flatMap W
  | 0 => fun l L l' h => by cases h; rfl
  | n + 1 => fun l L l' h => by
    unfold Rd.rep Rd.bind at h
    cases h1 : Rd.rep p n l with
    | none => rw [h1] at h; cases h
    | some x =>
      obtain ⟨L1, l1⟩ := x
      rw [h1] at h
      simp only [Option.bind_some] at h
      have hl := ex_rep hp n l L1 l1 h1
      cases h2 : p l1 with
      | none => rw [h2] at h; cases h
      | some y =>
        obtain ⟨a, l2⟩ := y
        rw [h2] at h
        have h3 := hp _ _ _ h2
        cases h
        rw [hl, h3]
        simp
theorem ex_list {α : Type} {p : Rd α} {W : α → List Nat} (hp : RdEx p W) (most : Int) : RdEx ((rdCount most).bind fun n => Rd.rep p n.toNat) fun L => [L.length] ++ L.flatMap W :=
  (ex_count most).bind fun n l L l' _ h => by
    have h1 := rep_len p _ _ _ _ h
    have h2 := ex_rep hp _ _ _ _ h
    rw [h1, h2]
    simp
theorem ex_pure {α : Type} {a b : α} {l l' : List Nat} (h : Rd.pure a l = some (b, l')) : a = b ∧ l = l' := by
  cases h
  exact ⟨rfl, rfl⟩
theorem ex_args : RdEx rdArgs fun l => writeAll (argsI l) := fun l a l' h => by
  have := ex_list (ex_count 99) 3 l a l' h
  show l = writeAll (argsI a) ++ l'
  rw [argsW, writeAll_flat]
  exact this
theorem ex_spn : RdEx rdSpn fun s => writeAll (spnI s) := (ex_count 999).bind fun a l s l' _ h => by
  have := (ex_count 999).bind (q := fun b => Rd.pure (⟨a, b⟩ : Spn)) (V := fun s => [s.hi.toNat]) (fun b l s l' _ h => by obtain ⟨rfl, rfl⟩ := ex_pure h; rfl) l s l' h
  have e : s.lo = a := by
    unfold Rd.bind at h
    cases hc : rdCount 999 l with
    | none => rw [hc] at h; cases h
    | some x => rw [hc] at h; cases h; rfl
  rw [this, w_spn, e]
  rfl
theorem ex_spns : RdEx rdSpns fun l => writeAll (spnsI l) := fun l a l' h => by
  have := ex_list ex_spn 8 l a l' h
  show l = writeAll (spnsI a) ++ l'
  rw [spnsW, writeAll_flat]
  exact this
/-- A piece more of words ahead. -/
def RdTo {α : Type} (q : Rd α) (ws : List Nat) (V : α → List Nat) : Prop := ∀ l b l', q l = some (b, l') → ws ++ l = V b ++ l'
theorem RdTo.of {α : Type} {q : Rd α} {V : α → List Nat} (h : RdTo q [] V) : RdEx q V := fun l b l' hq => h l b l' hq
theorem RdTo.bind {α β : Type} {p : Rd α} {q : α → Rd β} {W : α → List Nat} {V : β → List Nat} {ws : List Nat} (hp : RdEx p W) (hq : ∀ a, RdTo (q a) (ws ++ W a) V) : RdTo (p.bind q) ws V := fun l b l' h => by
  unfold Rd.bind at h
  cases hpl : p l with
  | none => rw [hpl] at h; cases h
  | some x =>
    obtain ⟨a, l1⟩ := x
    rw [hpl] at h
    rw [hp _ _ _ hpl, ← List.append_assoc]
    exact hq a l1 b l' h
theorem RdTo.pure {α : Type} {a : α} {ws : List Nat} {V : α → List Nat} (h : ws = V a) : RdTo (Rd.pure a) ws V := fun l b l' hq => by
  obtain ⟨rfl, rfl⟩ := ex_pure hq
  rw [h]
theorem ex_chg : RdEx rdChg fun c => writeAll (chgI c) := RdTo.of (.bind (ex_count _) fun _ => .bind ex_flag fun _ => .bind ex_signed fun _ => .pure (by rw [w_chg]; rfl))
theorem ex_chgs : RdEx rdChgs fun l => writeAll (chgsI l) := fun l a l' h => by
  have := ex_list ex_chg 8 l a l' h
  show l = writeAll (chgsI a) ++ l'
  rw [chgsW, writeAll_flat]
  exact this
def nodW (n : Nod) : List Nat := writeAll [iN n.saga 12, iN n.cls 4, iN n.step 4, iF n.back] ++ (writeAll (spnsI n.reads) ++ writeAll (spnsI n.writes))
theorem ex_nod : RdEx rdNod nodW := RdTo.of (.bind (ex_count _) fun _ => .bind (ex_count _) fun _ => .bind (ex_count _) fun _ => .bind ex_flag fun _ => .bind ex_spns fun _ => .bind ex_spns fun _ => .pure (by simp [nodW, writeAll, w_iN, w_iF]))
theorem ex_sub : RdEx rdSubR recW := by
  unfold rdSubR
  refine RdTo.of (.bind (ex_count _) fun c => .bind ex_args fun a => .pure ?_)
  show [] ++ [c.toNat] ++ writeAll (argsI a) = writeAll (iN c 4 :: argsI a)
  rw [writeAll_cons, w_iN]
  simp
theorem ex_step : RdEx rdStepR recW := by
  unfold rdStepR
  refine RdTo.of (.bind ex_nod fun n => .bind (ex_rep ex_signed 4) fun r => .bind ex_chgs fun c => .pure ?_)
  have e : writeAll (r.map iX) = r.flatMap fun x => [signed x] := by simp [writeAll, List.flatMap_map, w_iX]
  show [] ++ nodW n ++ (r.flatMap fun x => [signed x]) ++ writeAll (chgsI c) = writeAll (stepI ⟨2, 0, 0, [], 0, n, r, c⟩)
  rw [stepI, writeAll_app, writeAll_app, writeAll_app, writeAll_app, e]
  simp [nodW]
theorem ex_ab : RdEx rdAbR recW := by
  unfold rdAbR
  refine RdTo.of (.bind (ex_count _) fun c => .bind (ex_count _) fun a => .pure ?_)
  show [] ++ [c.toNat] ++ [a.toNat] = writeAll [iN c 12, iN a 15]
  rfl
theorem ex_rec {k : Int} (hk : k = 1 ∨ k = 2 ∨ k = 3) : RdEx (rdRec k) recW := by
  rcases hk with rfl | rfl | rfl
  · exact ex_sub
  · exact ex_step
  · exact ex_ab
theorem kind_rec {k : Int} {l l' : List Nat} {x : Recd} (h : rdRec k l = some (x, l')) : x.kind = k := by
  have hP : ∀ {α : Type} {p : Rd α} {q : α → Rd Recd} {m : List Nat} {y : Recd} {m' : List Nat}, (∀ a m y m', q a m = some (y, m') → y.kind = k) → (p.bind q) m = some (y, m') → y.kind = k := fun {α p q m y m'} hq hb => by
    unfold Rd.bind at hb
    cases hp : p m with
    | none => rw [hp] at hb; cases hb
    | some x => rw [hp] at hb; exact hq _ _ _ _ hb
  have hU : ∀ {z y : Recd} {m m' : List Nat}, z.kind = k → Rd.pure z m = some (y, m') → y.kind = k := fun hz hb => by obtain ⟨rfl, rfl⟩ := ex_pure hb; exact hz
  unfold rdRec at h
  split at h
  · rename_i k1; subst k1
    exact hP (fun _ _ _ _ => hP fun _ _ _ _ => hU rfl) h
  · split at h
    · rename_i k1; subst k1
      exact hP (fun _ _ _ _ => hP fun _ _ _ _ => hP fun _ _ _ _ => hU rfl) h
    · split at h
      · rename_i k1; subst k1
        exact hP (fun _ _ _ _ => hP fun _ _ _ _ => hU rfl) h
      · exact hU rfl h
theorem may_kind {x : Recd} (h : recMay x = true) : x.kind = 1 ∨ x.kind = 2 ∨ x.kind = 3 := by
  rcases may_cases h with ⟨h, _⟩ | ⟨h, _⟩ | h <;> simp [h]
/-- A frame that has a record is that record's. -/
theorem recGet_put {f : Frm} {x : Recd} (h : recGet f = some x) : recMay x = true ∧ x.kind = f.kind ∧ recW x = f.words := by
  unfold recGet at h
  cases hr : rdRec f.kind f.words with
  | none => rw [hr] at h; cases h
  | some p =>
    obtain ⟨y, l'⟩ := p
    rw [hr] at h
    simp only [Option.bind_some] at h
    split at h
    · rename_i hc
      obtain ⟨h1, h2⟩ := hc
      cases h
      subst h1
      have hk := kind_rec hr
      refine ⟨h2, hk, ?_⟩
      have := ex_rec (by rw [← hk]; exact may_kind h2) _ _ _ hr
      rw [this]
      simp
    · cases h
end Go.Proofs

/- The document's record of a frame. -/
namespace Go.Proofs
open Go Go.RowKit Go.Am

theorem item_call {α : Type} {h : H} {b : Nat} {s : RS} {kind most : Int} (p : Rd α) (d : α) (g : Item → α) (hm : inI most) (hr : RIs h b s)
    (hg : g (runS (refRead kind most) item00 s).1 = (runS p d s).1 ∧ (runS (refRead kind most) item00 s).2 = (runS p d s).2) :
    ∃ (y : Item) (s' : RS), SCall Try.prog 38 [.ptr b 0, .int .i64 kind, .int .i64 most] h (.agg (encItm y)) (h.set b (encRS s')) ∧ RIs (h.set b (encRS s')) b s' ∧ Got p s (g y) s' := by
  have hx := item_rd hr kind hm
  refine ⟨_, _, hx.call, hx.to.is, ?_⟩
  have := Got.runS p d s
  rw [← hg.1, ← hg.2] at this
  exact this

set_option maxHeartbeats 1000000 in
theorem refSpans_rd {h : H} {b : Nat} {s : RS} (hr : RIs h b s) : RdQ 76 [.ptr b 0] h b s rdSpns (fun l => .sl .no (l.map encSpn)) := by
  refine RdQ.mk' hr (fun l => elOK_Spn.pureL l) (CallP.run hb76 ok76 (by simp) ?_)
  have hb := hr.blt
  simp -implicitDefEqProofs []
  refine callQ_item (rdCount 8) 0 (·.n) (by simp [inI]) hr (item_count 8 s) (by simp) fun y0 s1 e0 e0' q g => ?_
  have hin := rdCount_in (most := 8) (by simp [inI]) s
  rw [← e0] at hin
  obtain ⟨N, hNe⟩ := Int.eq_ofNat_of_zero_le hin.1
  have hN : N ≤ 8 := by omega
  rw [hNe] at g
  simp -implicitDefEqProofs [encItm, hNe]
  refine run_loop (fun m S h1 => ∃ (j : Nat) (sj : RS) (L : List Spn) (t : Tok), m = N - j ∧ j ≤ N ∧ S 0 = .ptr b 0 ∧ S 3 = .sl t (L.map encSpn) ∧ S 4 = .int .i64 N ∧ S 5 = .int .i64 j ∧ RLoop h b s1 rdSpn j h1 sj L t) ?_ N ?_
  rotate_left
  · exact ⟨0, s1, [], .full, rfl, Nat.zero_le _, by simp, by simp, by simp, by simp, RLoop.start q⟩
  rintro m S h1 ⟨j, sj, L, t, hm, hj, t0, t3, t4, t5, hL⟩ ih
  by_cases hlt : j < N
  · simp -implicitDefEqProofs [t0, t4, t5, hlt]
    refine callQ_item (rdCount 999) 0 (·.n) (by simp [inI]) hL.to.is (item_count 999 sj) (by simp) fun v1 u1 _ _ q1 g1 => ?_
    simp -implicitDefEqProofs [encItm, t0]
    refine callQ_item (rdCount 999) 0 (·.n) (by simp [inI]) q1.is (item_count 999 u1) (by simp) fun v2 u2 _ _ q2 g2 => ?_
    simp -implicitDefEqProofs [encItm, t3]
    refine appQ_tok (t := t) (es := L.map encSpn) (es2 := [encSpn ⟨v1.n, v2.n⟩]) (by simpa [hL.len] using hL.live) (by simp [encSpn]) (by simp [srcA, encSpn]) (by simp [hL.len]; omega) fun t' h3 p1 p2 p3 p4 => ?_
    have hg : Got rdSpn sj ⟨v1.n, v2.n⟩ u2 := g1.bind (g2.bind (Got.pure _ _))
    have hl2 := hL.next hg (h2 := _) (h3 := h3) (t' := t') (hL.to.trans (q1.trans q2)) (by simpa [hL.len] using p1) p2 p3
    simp -implicitDefEqProofs [t5, inc_i64 hlt (show N ≤ _ by omega), -Int.natCast_add]
    exact ih (N - (j + 1)) _ _ (by omega) ⟨j + 1, u2, _, t', rfl, by omega, by simp [t0], by simp, by simp [t4], by simp, hl2⟩
  · obtain rfl : j = N := by omega
    simp -implicitDefEqProofs [t3, t4, t5]
    exact ⟨L, by simp, sj, hL.to.fin, hL.to.is.bd, g.bind (by rw [Int.toNat_natCast]; exact hL.got)⟩

def zero16 : List AV := [.int .i64 0, .int .i64 0, .int .i64 0, .sl .full [], .int .i64 0, .int .i64 0, .int .i64 0, .int .i64 0, .bool false, .sl .full [], .sl .full [], .int .i64 0, .int .i64 0, .int .i64 0, .int .i64 0, .sl .full []]
/-- Where the document's reading of a frame stands. -/
structure GD (h1 : H) (C : List AV) (s1 : RS) : Prop where
  bn : h1.bn = 4
  is : RIs h1 2 s1
  r : h1.bx 1 = some zero16
  d : h1.bx 3 = some C
theorem GD.rd {h : H} {C : List AV} {s s' : RS} (a : GD h C s) (q : RIs (h.set 2 (encRS s')) 2 s') : GD (h.set 2 (encRS s')) C s' :=
  ⟨by simpa using a.bn, q, by simp [a.r], by simp [a.d]⟩
theorem GD.setD {h : H} {C C' : List AV} {s : RS} (a : GD h C s) : GD (h.set 3 C') C' s :=
  ⟨by simpa using a.bn, a.is.setO (by omega), by simp [a.r], by simp⟩
theorem GD.app {h h3 : H} {C : List AV} {s : RS} {t : Tok} (a : GD h C s) (f : HF h h3 (fun _ => False) (TOwn t)) (e : h3.bn = h.bn) : GD h3 C s :=
  ⟨by rw [e, a.bn], ⟨by rw [e, a.bn]; omega, by rw [f.bx 2 (by rw [a.bn]; omega) fun h => h, a.is.bx], a.is.bd⟩, by rw [f.bx 1 (by rw [a.bn]; omega) fun h => h, a.r], by rw [f.bx 3 (by rw [a.bn]; omega) fun h => h, a.d]⟩

set_option maxHeartbeats 8000000 in
theorem refGet1_ok (f : Frm) (hf : f.wf) (hl : f.words.length ≤ 1000) (k1 : f.kind = 1) : PCall Try.prog 29 [.agg (encFrm f)] (getV (recGet f)) := by
  refine PCall.run hb29 ok29 (by simp) (pures1 (.agg (pure_encFrm f))) (pure_getV _) ?_
  have hrd : rdRec f.kind = rdSubR := by simp [rdRec, k1]
  simp -implicitDefEqProofs [encFrm, H.nil, k1]
  generalize hH : (H.set _ 3 _ : H) = h0
  have G0 : GD h0 [.int .i64 1, .int .i64 0, .int .i64 0, .sl .full [], .int .i64 0, .int .i64 0, .int .i64 0, .int .i64 0, .bool false, .sl .full [], .sl .full [], .int .i64 0, .int .i64 0, .int .i64 0, .int .i64 0, .sl .full []] (some f.words) := by
    rw [← hH]
    exact ⟨by simp, ⟨by simp, by simp [encRS], fun l hl' => by cases hl'; exact ⟨by omega, hf.2.2⟩⟩, by simp [zero16], by simp⟩
  clear hH
  have g0n := G0.bn
  have g0d := G0.d
  have m3 : 3 < h0.bn := by omega
  refine callQ_item (rdCount 4) 0 (·.n) (by simp [inI]) G0.is (item_count 4 _) (by simp) fun v s1 _ _ q1 g1 => ?_
  have G1 := (G0.rd q1.is).setD (C' := [.int .i64 1, .int .i64 0, .int .i64 v.n, .sl .full [], .int .i64 0, .int .i64 0, .int .i64 0, .int .i64 0, .bool false, .sl .full [], .sl .full [], .int .i64 0, .int .i64 0, .int .i64 0, .int .i64 0, .sl .full []])
  simp -implicitDefEqProofs [encItm, g0d, m3]
  generalize hH : H.set (H.set h0 2 _) 3 _ = h1 at G1 ⊢
  clear hH q1 g0n g0d m3 G0
  refine callQ_item (rdCount 3) 0 (·.n) (by simp [inI]) G1.is (item_count 3 _) (by simp) fun y s2 e0 _ q2 g2 => ?_
  have hin := rdCount_in (most := 3) (by simp [inI]) s1
  rw [← e0] at hin
  obtain ⟨N, hNe⟩ := Int.eq_ofNat_of_zero_le hin.1
  have hN : N ≤ 3 := by omega
  rw [hNe] at g2
  have G2 := G1.rd q2.is
  simp -implicitDefEqProofs [encItm, hNe]
  refine run_loop (fun m S h => ∃ (j : Nat) (sj : RS) (L : List Int) (t : Tok), m = N - j ∧ j ≤ N ∧ S 2 = .ptr 1 0 ∧ S 4 = .ptr 2 0 ∧ S 5 = .ptr 3 0 ∧ S 6 = .int .i64 N ∧ S 7 = .int .i64 j ∧ GD h [.int .i64 1, .int .i64 0, .int .i64 v.n, .sl t (L.map encN), .int .i64 0, .int .i64 0, .int .i64 0, .int .i64 0, .bool false, .sl .full [], .sl .full [], .int .i64 0, .int .i64 0, .int .i64 0, .int .i64 0, .sl .full []] sj ∧ Got (Rd.rep (rdCount 99) j) s2 L sj ∧ L.length = j ∧ TLive h t j) ?_ N ?_
  rotate_left
  · exact ⟨0, s2, [], .full, rfl, Nat.zero_le _, by simp, by simp, by simp, by simp, by simp, G2, Got.pure _ _, rfl, trivial⟩
  clear G2
  rintro m S h ⟨j, sj, L, t, hm, hj, t2, t4, t5, t6, t7, G, hg, hlen, hlive⟩ ih
  have gn := G.bn
  have gd := G.d
  have m3 : 3 < h.bn := by omega
  by_cases hlt : j < N
  · obtain ⟨y, u, c1, i1, ga⟩ := item_call (kind := 0) (most := 99) (rdCount 99) 0 (·.n) (by simp [inI]) G.is (item_count 99 sj)
    have G3 := G.rd i1
    simp -implicitDefEqProofs [t6, t7, hlt]
    refine run_dreg c29_d10 ?_
    simp -implicitDefEqProofs [t4, t5, gd, m3]
    refine callD_s c1 (by simp) ?_
    simp -implicitDefEqProofs [encItm]
    refine appQ_tok (t := t) (es := L.map encN) (es2 := [encN y.n]) (by simpa [hlen] using hlive) (by simp [encN]) (by simp [srcA, encN]) (by simp [hlen]; omega) fun t' h3 p1 p2 p3 p4 => ?_
    have G4 := G3.app p3 p4
    have g4d := G4.d
    have m4 : 3 < h3.bn := by have := G4.bn; omega
    have G5 := G4.setD (C' := [.int .i64 1, .int .i64 0, .int .i64 v.n, .sl t' ((L ++ [y.n]).map encN), .int .i64 0, .int .i64 0, .int .i64 0, .int .i64 0, .bool false, .sl .full [], .sl .full [], .int .i64 0, .int .i64 0, .int .i64 0, .int .i64 0, .sl .full []])
    simp -implicitDefEqProofs [t5, gd, m3, g4d, m4, t7, inc_i64 hlt (show N ≤ _ by omega), -Int.natCast_add]
    exact ih (N - (j + 1)) _ _ (by omega) ⟨j + 1, u, L ++ [y.n], t', rfl, by omega, by simp [t2], by simp [t4], by simp [t5], by simp [t6], by simp, by simpa [encN] using G5, hg.bind (ga.bind (Got.pure _ _)), by simp [hlen], by simpa [hlen] using p1⟩
  · obtain rfl : j = N := by omega
    have gA : Got rdArgs s1 L sj := g2.bind (by rw [Int.toNat_natCast]; exact hg)
    have gE : Got (rdRec f.kind) (some f.words) ⟨1, 0, v.n, L, 0, nod0, [0, 0, 0, 0], []⟩ sj := by rw [hrd]; exact g1.bind (gA.bind (Got.pure _ _))
    simp -implicitDefEqProofs [t6, t7]
    have gl := G.bn
    have gi := G.is
    have gr := G.r
    have gd := G.d
    unfold zero16 at gr
    have hx := gi.bx
    have n1 : 1 < h.bn := by omega
    have n2 : 2 < h.bn := by omega
    have n3 : 3 < h.bn := by omega
    cases sj with
    | none =>
      rw [recGet_bad gE rfl]
      rw [encRS] at hx
      simp -implicitDefEqProofs [t2, t4, hx, n2, n1, gr, getV, encRecd, rec0, nod0]
    | some l =>
      cases l with
      | cons w l =>
        rw [recGet_bad gE rfl]
        rw [encRS] at hx
        simp -implicitDefEqProofs [t2, t4, hx, n2, n1, gr, getV, encRecd, rec0, nod0, show (0 : Int) < (l.length : Int) + 1 by omega]
      | nil =>
        rw [encRS] at hx
        have hw := got_few hf hl gE rfl
        rw [recGet_end gE rfl]
        simp -implicitDefEqProofs [t4, t5, hx, n2, n3, gd]
        refine callQ_p (refMay_ok _ hw.1 (by have := hw.2.1; omega) (by have := hw.2.2.2.1; omega) (by have := hw.2.2.2.2; omega)) (by simp [encRecd, nod0]) ?_
        cases hm : recMay ⟨1, 0, v.n, L, 0, nod0, [0, 0, 0, 0], []⟩
        · simp -implicitDefEqProofs [t2, t4, n1, gr, getV, encRecd, rec0, nod0]
        · simp -implicitDefEqProofs [t2, t4, t5, n1, n3, gr, gd, getV, encRecd, nod0]

set_option maxHeartbeats 8000000 in
theorem refGet3_ok (f : Frm) (hf : f.wf) (hl : f.words.length ≤ 1000) (k3 : f.kind = 3) : PCall Try.prog 29 [.agg (encFrm f)] (getV (recGet f)) := by
  refine PCall.run hb29 ok29 (by simp) (pures1 (.agg (pure_encFrm f))) (pure_getV _) ?_
  have hrd : rdRec f.kind = rdAbR := by simp [rdRec, k3]
  simp -implicitDefEqProofs [encFrm, H.nil, k3]
  generalize hH : (H.set _ 3 _ : H) = h0
  have G0 : GD h0 [.int .i64 3, .int .i64 0, .int .i64 0, .sl .full [], .int .i64 0, .int .i64 0, .int .i64 0, .int .i64 0, .bool false, .sl .full [], .sl .full [], .int .i64 0, .int .i64 0, .int .i64 0, .int .i64 0, .sl .full []] (some f.words) := by
    rw [← hH]
    exact ⟨by simp, ⟨by simp, by simp [encRS], fun l hl' => by cases hl'; exact ⟨by omega, hf.2.2⟩⟩, by simp [zero16], by simp⟩
  clear hH
  have g0n := G0.bn
  have g0d := G0.d
  have m3 : 3 < h0.bn := by omega
  refine callQ_item (rdCount 12) 0 (·.n) (by simp [inI]) G0.is (item_count 12 _) (by simp) fun v s1 _ _ q1 g1 => ?_
  have G1 := (G0.rd q1.is).setD (C' := [.int .i64 3, .int .i64 v.n, .int .i64 0, .sl .full [], .int .i64 0, .int .i64 0, .int .i64 0, .int .i64 0, .bool false, .sl .full [], .sl .full [], .int .i64 0, .int .i64 0, .int .i64 0, .int .i64 0, .sl .full []])
  simp -implicitDefEqProofs [encItm, g0d, m3]
  generalize hH : H.set (H.set h0 2 _) 3 _ = h1 at G1 ⊢
  clear hH q1 g0n g0d m3 G0
  have g1n := G1.bn
  have g1d := G1.d
  have m3 : 3 < h1.bn := by omega
  refine callQ_item (rdCount 15) 0 (·.n) (by simp [inI]) G1.is (item_count 15 _) (by simp) fun w s2 _ _ q2 g2 => ?_
  have G2 := (G1.rd q2.is).setD (C' := [.int .i64 3, .int .i64 v.n, .int .i64 0, .sl .full [], .int .i64 w.n, .int .i64 0, .int .i64 0, .int .i64 0, .bool false, .sl .full [], .sl .full [], .int .i64 0, .int .i64 0, .int .i64 0, .int .i64 0, .sl .full []])
  have gE : Got (rdRec f.kind) (some f.words) ⟨3, v.n, 0, [], w.n, nod0, [0, 0, 0, 0], []⟩ s2 := by rw [hrd]; exact g1.bind (g2.bind (Got.pure _ _))
  have g1r := G1.r
  unfold zero16 at g1r
  have n1 : 1 < h1.bn := by omega
  have n2 : 2 < h1.bn := by omega
  cases s2 with
  | none =>
    rw [recGet_bad gE rfl]
    simp -implicitDefEqProofs [encItm, g1d, m3, n1, n2, encRS, g1r, getV, encRecd, rec0, nod0]
  | some l =>
    cases l with
    | cons a l =>
      rw [recGet_bad gE rfl]
      simp -implicitDefEqProofs [encItm, g1d, m3, n1, n2, encRS, g1r, getV, encRecd, rec0, nod0, show (0 : Int) < (l.length : Int) + 1 by omega]
    | nil =>
      have hw := got_few hf hl gE rfl
      rw [recGet_end gE rfl]
      simp -implicitDefEqProofs [encItm, g1d, m3, n2, encRS]
      refine callQ_p (refMay_ok _ hw.1 (by have := hw.2.1; omega) (by have := hw.2.2.2.1; omega) (by have := hw.2.2.2.2; omega)) (by simp [encRecd, nod0]) ?_
      cases hm : recMay ⟨3, v.n, 0, [], w.n, nod0, [0, 0, 0, 0], []⟩
      · simp -implicitDefEqProofs [encItm, n1, g1r, getV, encRecd, rec0, nod0]
      · simp -implicitDefEqProofs [encItm, m3, n1, g1r, getV, encRecd, nod0]

set_option maxHeartbeats 8000000 in
theorem refGet0_ok (f : Frm) (hf : f.wf) (hl : f.words.length ≤ 1000) (k1 : ¬ f.kind = 1) (k2 : ¬ f.kind = 2) (k3 : ¬ f.kind = 3) : PCall Try.prog 29 [.agg (encFrm f)] (getV (recGet f)) := by
  refine PCall.run hb29 ok29 (by simp) (pures1 (.agg (pure_encFrm f))) (pure_getV _) ?_
  have hrm : recMay ⟨f.kind, 0, 0, [], 0, nod0, [0, 0, 0, 0], []⟩ = false := by simp [recMay, k1, k2, k3]
  have hn : recGet f = none := by
    cases hq : recGet f with
    | none => rfl
    | some x =>
      obtain ⟨a, b, _⟩ := recGet_put hq
      have := may_kind a
      omega
  have hm := refMay_ok ⟨f.kind, 0, 0, [], 0, nod0, [0, 0, 0, 0], []⟩ ⟨hf.1, by simp [inI], by simp [inI], by simp [maxLen], by simp [inI], nod0_wf, by simp [inI], by simp [maxLen]⟩ (by simp) (by simp [nod0]) (by simp [nod0])
  rw [hrm] at hm
  rw [hn]
  simp -implicitDefEqProofs [encFrm, H.nil, k1, k2, k3]
  cases hw0 : f.words with
  | cons a l => simp -implicitDefEqProofs [getV, encRecd, rec0, nod0]
  | nil =>
    simp -implicitDefEqProofs []
    refine callQ_p hm (by simp [encRecd, nod0]) ?_
    simp -implicitDefEqProofs [getV, encRecd, rec0, nod0]

set_option maxHeartbeats 8000000 in
theorem refGet2_ok (f : Frm) (hf : f.wf) (hl : f.words.length ≤ 1000) (k2 : f.kind = 2) : PCall Try.prog 29 [.agg (encFrm f)] (getV (recGet f)) := by
  refine PCall.run hb29 ok29 (by simp) (pures1 (.agg (pure_encFrm f))) (pure_getV _) ?_
  have hrd : rdRec f.kind = rdStepR := by simp [rdRec, k2]
  simp -implicitDefEqProofs [encFrm, H.nil, k2]
  generalize hH : (H.set _ 3 _ : H) = h0
  have G0 : GD h0 [.int .i64 2, .int .i64 0, .int .i64 0, .sl .full [], .int .i64 0, .int .i64 0, .int .i64 0, .int .i64 0, .bool false, .sl .full [], .sl .full [], .int .i64 0, .int .i64 0, .int .i64 0, .int .i64 0, .sl .full []] (some f.words) := by
    rw [← hH]
    exact ⟨by simp, ⟨by simp, by simp [encRS], fun l hl' => by cases hl'; exact ⟨by omega, hf.2.2⟩⟩, by simp [zero16], by simp⟩
  clear hH
  have g0d := G0.d
  have m3 : 3 < h0.bn := by have := G0.bn; omega
  refine callQ_item (rdCount 12) 0 (·.n) (by simp [inI]) G0.is (item_count 12 _) (by simp) fun v1 s1 _ _ q1 g1 => ?_
  have G1 := (G0.rd q1.is).setD (C' := [.int .i64 2, .int .i64 0, .int .i64 0, .sl .full [], .int .i64 0, .int .i64 v1.n, .int .i64 0, .int .i64 0, .bool false, .sl .full [], .sl .full [], .int .i64 0, .int .i64 0, .int .i64 0, .int .i64 0, .sl .full []])
  simp -implicitDefEqProofs [encItm, g0d, m3]
  generalize hH : H.set (H.set h0 2 _) 3 _ = h1 at G1 ⊢
  clear hH q1 g0d m3 G0
  have g1d := G1.d
  have m3 : 3 < h1.bn := by have := G1.bn; omega
  refine callQ_item (rdCount 4) 0 (·.n) (by simp [inI]) G1.is (item_count 4 _) (by simp) fun v2 s2 _ _ q2 g2 => ?_
  have G2 := (G1.rd q2.is).setD (C' := [.int .i64 2, .int .i64 0, .int .i64 0, .sl .full [], .int .i64 0, .int .i64 v1.n, .int .i64 v2.n, .int .i64 0, .bool false, .sl .full [], .sl .full [], .int .i64 0, .int .i64 0, .int .i64 0, .int .i64 0, .sl .full []])
  simp -implicitDefEqProofs [encItm, g1d, m3]
  generalize hH : H.set (H.set h1 2 _) 3 _ = h2 at G2 ⊢
  clear hH q2 g1d m3 G1
  have g2d := G2.d
  have m3 : 3 < h2.bn := by have := G2.bn; omega
  refine callQ_item (rdCount 4) 0 (·.n) (by simp [inI]) G2.is (item_count 4 _) (by simp) fun v3 s3 _ _ q3 g3 => ?_
  have G3 := (G2.rd q3.is).setD (C' := [.int .i64 2, .int .i64 0, .int .i64 0, .sl .full [], .int .i64 0, .int .i64 v1.n, .int .i64 v2.n, .int .i64 v3.n, .bool false, .sl .full [], .sl .full [], .int .i64 0, .int .i64 0, .int .i64 0, .int .i64 0, .sl .full []])
  simp -implicitDefEqProofs [encItm, g2d, m3]
  generalize hH : H.set (H.set h2 2 _) 3 _ = h3 at G3 ⊢
  clear hH q3 g2d m3 G2
  have g3d := G3.d
  have m3 : 3 < h3.bn := by have := G3.bn; omega
  refine callQ_item (rdFlag) false (fun y => decide (y.n = 1)) (by simp [inI]) G3.is (item_flag _) (by simp) fun v4 s4 _ _ q4 g4 => ?_
  have G4 := (G3.rd q4.is).setD (C' := [.int .i64 2, .int .i64 0, .int .i64 0, .sl .full [], .int .i64 0, .int .i64 v1.n, .int .i64 v2.n, .int .i64 v3.n, .bool (decide (v4.n = 1)), .sl .full [], .sl .full [], .int .i64 0, .int .i64 0, .int .i64 0, .int .i64 0, .sl .full []])
  simp -implicitDefEqProofs [encItm, g3d, m3]
  generalize hH : H.set (H.set h3 2 _) 3 _ = h4 at G4 ⊢
  clear hH q4 g3d m3 G3
  have g4d := G4.d
  have m3 : 3 < h4.bn := by have := G4.bn; omega
  refine callQ_r (refSpans_rd G4.is) (by simp) fun A s5 q5 g5 => ?_
  have G5 := (G4.rd q5.is).setD (C' := [.int .i64 2, .int .i64 0, .int .i64 0, .sl .full [], .int .i64 0, .int .i64 v1.n, .int .i64 v2.n, .int .i64 v3.n, .bool (decide (v4.n = 1)), .sl .no (A.map encSpn), .sl .full [], .int .i64 0, .int .i64 0, .int .i64 0, .int .i64 0, .sl .full []])
  simp -implicitDefEqProofs [g4d, m3]
  generalize hH : H.set (H.set h4 2 _) 3 _ = h5 at G5 ⊢
  clear hH q5 g4d m3 G4
  have g5d := G5.d
  have m3 : 3 < h5.bn := by have := G5.bn; omega
  refine callQ_r (refSpans_rd G5.is) (by simp) fun B s6 q6 g6 => ?_
  have G6 := (G5.rd q6.is).setD (C' := [.int .i64 2, .int .i64 0, .int .i64 0, .sl .full [], .int .i64 0, .int .i64 v1.n, .int .i64 v2.n, .int .i64 v3.n, .bool (decide (v4.n = 1)), .sl .no (A.map encSpn), .sl .no (B.map encSpn), .int .i64 0, .int .i64 0, .int .i64 0, .int .i64 0, .sl .full []])
  simp -implicitDefEqProofs [g5d, m3]
  generalize hH : H.set (H.set h5 2 _) 3 _ = h6 at G6 ⊢
  clear hH q6 g5d m3 G5
  have hgn : Got rdNod (some f.words) ⟨v1.n, v2.n, v3.n, decide (v4.n = 1), A, B⟩ s6 := g1.bind (g2.bind (g3.bind (g4.bind (g5.bind (g6.bind (Got.pure _ _))))))
  clear g1 g2 g3 g4 g5 g6
  generalize decide (v4.n = 1) = bk at *
  generalize v1.n = w1 at *
  generalize v2.n = w2 at *
  generalize v3.n = w3 at *
  refine run_loop (fun m S h => ∃ (j : Nat) (sj : RS) (r0 r1 r2 r3 : Int), m = 4 - j ∧ j ≤ 4 ∧ S 2 = .ptr 1 0 ∧ S 4 = .ptr 2 0 ∧ S 5 = .ptr 3 0 ∧ S 8 = .int .i64 j ∧ GD h [.int .i64 2, .int .i64 0, .int .i64 0, .sl .full [], .int .i64 0, .int .i64 w1, .int .i64 w2, .int .i64 w3, .bool bk, .sl .no (A.map encSpn), .sl .no (B.map encSpn), .int .i64 r0, .int .i64 r1, .int .i64 r2, .int .i64 r3, .sl .full []] sj ∧ Got (Rd.rep rdSigned j) s6 ([r0, r1, r2, r3].take j) sj) ?_ 4 ?_
  rotate_left
  · exact ⟨0, s6, 0, 0, 0, 0, rfl, Nat.zero_le _, by simp, by simp, by simp, by simp, G6, Got.pure _ _⟩
  clear G6
  rintro m S h ⟨j, sj, r0, r1, r2, r3, hm, hj, t2, t4, t5, t8, G, hg⟩ ih
  have gd := G.d
  have m3 : 3 < h.bn := by have := G.bn; omega
  rcases (by omega : j = 0 ∨ j = 1 ∨ j = 2 ∨ j = 3 ∨ j = 4) with rfl | rfl | rfl | rfl | rfl
  · simp -implicitDefEqProofs [t8]
    refine callQ_item rdSigned 0 (·.x) (by simp [inI]) G.is (item_signed sj) (by simp [t4]) fun v u _ _ q g => ?_
    have G2 := (G.rd q.is).setD (C' := [.int .i64 2, .int .i64 0, .int .i64 0, .sl .full [], .int .i64 0, .int .i64 w1, .int .i64 w2, .int .i64 w3, .bool bk, .sl .no (A.map encSpn), .sl .no (B.map encSpn), .int .i64 v.x, .int .i64 r1, .int .i64 r2, .int .i64 r3, .sl .full []])
    simp -implicitDefEqProofs [encItm, t5, t8, gd, m3]
    exact ih 3 _ _ (by omega) ⟨1, u, v.x, r1, r2, r3, rfl, by omega, by simp [t2], by simp [t4], by simp [t5], by simp; decide, G2, hg.bind (g.bind (Got.pure _ _))⟩
  · simp -implicitDefEqProofs [t8]
    refine callQ_item rdSigned 0 (·.x) (by simp [inI]) G.is (item_signed sj) (by simp [t4]) fun v u _ _ q g => ?_
    have G2 := (G.rd q.is).setD (C' := [.int .i64 2, .int .i64 0, .int .i64 0, .sl .full [], .int .i64 0, .int .i64 w1, .int .i64 w2, .int .i64 w3, .bool bk, .sl .no (A.map encSpn), .sl .no (B.map encSpn), .int .i64 r0, .int .i64 v.x, .int .i64 r2, .int .i64 r3, .sl .full []])
    simp -implicitDefEqProofs [encItm, t5, t8, gd, m3]
    exact ih 2 _ _ (by omega) ⟨2, u, r0, v.x, r2, r3, rfl, by omega, by simp [t2], by simp [t4], by simp [t5], by simp; decide, G2, hg.bind (g.bind (Got.pure _ _))⟩
  · simp -implicitDefEqProofs [t8]
    refine callQ_item rdSigned 0 (·.x) (by simp [inI]) G.is (item_signed sj) (by simp [t4]) fun v u _ _ q g => ?_
    have G2 := (G.rd q.is).setD (C' := [.int .i64 2, .int .i64 0, .int .i64 0, .sl .full [], .int .i64 0, .int .i64 w1, .int .i64 w2, .int .i64 w3, .bool bk, .sl .no (A.map encSpn), .sl .no (B.map encSpn), .int .i64 r0, .int .i64 r1, .int .i64 v.x, .int .i64 r3, .sl .full []])
    simp -implicitDefEqProofs [encItm, t5, t8, gd, m3]
    exact ih 1 _ _ (by omega) ⟨3, u, r0, r1, v.x, r3, rfl, by omega, by simp [t2], by simp [t4], by simp [t5], by simp; decide, G2, hg.bind (g.bind (Got.pure _ _))⟩
  · simp -implicitDefEqProofs [t8]
    refine callQ_item rdSigned 0 (·.x) (by simp [inI]) G.is (item_signed sj) (by simp [t4]) fun v u _ _ q g => ?_
    have G2 := (G.rd q.is).setD (C' := [.int .i64 2, .int .i64 0, .int .i64 0, .sl .full [], .int .i64 0, .int .i64 w1, .int .i64 w2, .int .i64 w3, .bool bk, .sl .no (A.map encSpn), .sl .no (B.map encSpn), .int .i64 r0, .int .i64 r1, .int .i64 r2, .int .i64 v.x, .sl .full []])
    simp -implicitDefEqProofs [encItm, t5, t8, gd, m3]
    exact ih 0 _ _ (by omega) ⟨4, u, r0, r1, r2, v.x, rfl, by omega, by simp [t2], by simp [t4], by simp [t5], by simp; decide, G2, hg.bind (g.bind (Got.pure _ _))⟩
  simp -implicitDefEqProofs [t4, t8]
  refine callQ_item (rdCount 8) 0 (·.n) (by simp [inI]) G.is (item_count 8 sj) (by simp) fun y s7 e0 _ q7 g7 => ?_
  have hin := rdCount_in (most := 8) (by simp [inI]) sj
  rw [← e0] at hin
  obtain ⟨N, hNe⟩ := Int.eq_ofNat_of_zero_le hin.1
  have hN : N ≤ 8 := by omega
  rw [hNe] at g7
  have G2 := G.rd q7.is
  have hgr : Got (Rd.rep rdSigned 4) s6 [r0, r1, r2, r3] sj := hg
  simp -implicitDefEqProofs [encItm, hNe]
  clear ih hg
  refine run_loop (fun m S h => ∃ (j : Nat) (si : RS) (L : List Chg) (t : Tok), m = N - j ∧ j ≤ N ∧ S 2 = .ptr 1 0 ∧ S 4 = .ptr 2 0 ∧ S 5 = .ptr 3 0 ∧ S 9 = .int .i64 N ∧ S 10 = .int .i64 j ∧ GD h [.int .i64 2, .int .i64 0, .int .i64 0, .sl .full [], .int .i64 0, .int .i64 w1, .int .i64 w2, .int .i64 w3, .bool bk, .sl .no (A.map encSpn), .sl .no (B.map encSpn), .int .i64 r0, .int .i64 r1, .int .i64 r2, .int .i64 r3, .sl t (L.map encChg)] si ∧ Got (Rd.rep rdChg j) s7 L si ∧ L.length = j ∧ TLive h t j) ?_ N ?_
  rotate_left
  · exact ⟨0, s7, [], .full, rfl, Nat.zero_le _, by simp [t2], by simp [t4], by simp [t5], by simp, by simp, G2, Got.pure _ _, rfl, trivial⟩
  clear G2 G gd m3 t2 t4 t5 t8
  rintro m S h ⟨j, si, L, t, hm, hj, t2, t4, t5, t9, t10, G, hg, hlen, hlive⟩ ih
  have gn := G.bn
  have gd := G.d
  have m3 : 3 < h.bn := by omega
  by_cases hlt : j < N
  · simp -implicitDefEqProofs [t4, t9, t10, hlt]
    refine callQ_item (rdCount 999) 0 (·.n) (by simp [inI]) G.is (item_count 999 si) (by simp) fun a u1 _ _ q1 c1 => ?_
    have G1 := G.rd q1.is
    simp -implicitDefEqProofs [encItm, t4]
    refine callQ_item rdFlag false (fun y => decide (y.n = 1)) (by simp [inI]) G1.is (item_flag u1) (by simp) fun b u2 _ _ q2 c2 => ?_
    have G2 := G1.rd q2.is
    have g2d := G2.d
    have m2 : 3 < ((h.set 2 (encRS u1)).set 2 (encRS u2)).bn := by have := G2.bn; omega
    obtain ⟨y, u, cc, i1, c3⟩ := item_call (kind := 1) (most := 0) rdSigned 0 (·.x) (by simp [inI]) G2.is (item_signed u2)
    have G3 := G2.rd i1
    simp -implicitDefEqProofs [encItm]
    generalize hH2 : H.set (H.set h 2 (encRS u1)) 2 (encRS u2) = hh at *
    refine run_dreg c29_d30 ?_
    simp -implicitDefEqProofs [t4, t5, g2d, m2]
    refine callD_s cc (by simp) ?_
    simp -implicitDefEqProofs [encItm]
    refine appQ_tok (t := t) (es := L.map encChg) (es2 := [encChg ⟨a.n, decide (b.n = 1), y.x⟩]) (by rw [← hH2]; simpa [hlen] using hlive) (by simp [encChg]) (by simp [srcA, encChg]) (by simp [hlen]; omega) fun t' h3 p1 p2 p3 p4 => ?_
    have G4 := G3.app p3 p4
    have g4d := G4.d
    have m4 : 3 < h3.bn := by have := G4.bn; omega
    have G5 := G4.setD (C' := [.int .i64 2, .int .i64 0, .int .i64 0, .sl .full [], .int .i64 0, .int .i64 w1, .int .i64 w2, .int .i64 w3, .bool bk, .sl .no (A.map encSpn), .sl .no (B.map encSpn), .int .i64 r0, .int .i64 r1, .int .i64 r2, .int .i64 r3, .sl t' ((L ++ [Chg.mk a.n (decide (b.n = 1)) y.x]).map encChg)])
    have hc : Got rdChg si ⟨a.n, decide (b.n = 1), y.x⟩ u := c1.bind (c2.bind (c3.bind (Got.pure _ _)))
    simp -implicitDefEqProofs [t5, g2d, m2, g4d, m4, t10, inc_i64 hlt (show N ≤ _ by omega), -Int.natCast_add]
    exact ih (N - (j + 1)) _ _ (by omega) ⟨j + 1, u, L ++ [⟨a.n, decide (b.n = 1), y.x⟩], t', rfl, by omega, by simp [t2], by simp [t4], by simp [t5], by simp [t9], by simp, by simpa [encChg] using G5, hg.bind (hc.bind (Got.pure _ _)), by simp [hlen], by simpa [hlen] using p1⟩
  · obtain rfl : j = N := by omega
    have gC : Got rdChgs sj L si := g7.bind (by rw [Int.toNat_natCast]; exact hg)
    have gE : Got (rdRec f.kind) (some f.words) ⟨2, 0, 0, [], 0, ⟨w1, w2, w3, bk, A, B⟩, [r0, r1, r2, r3], L⟩ si := by rw [hrd]; exact hgn.bind (hgr.bind (gC.bind (Got.pure _ _)))
    simp -implicitDefEqProofs [t9, t10]
    have gl := G.bn
    have gi := G.is
    have gr := G.r
    have gd := G.d
    unfold zero16 at gr
    have hx := gi.bx
    have n1 : 1 < h.bn := by omega
    have n2 : 2 < h.bn := by omega
    have n3 : 3 < h.bn := by omega
    cases si with
    | none =>
      rw [recGet_bad gE rfl]
      rw [encRS] at hx
      simp -implicitDefEqProofs [t2, t4, hx, n2, n1, gr, getV, encRecd, rec0, nod0]
    | some l =>
      cases l with
      | cons w l =>
        rw [recGet_bad gE rfl]
        rw [encRS] at hx
        simp -implicitDefEqProofs [t2, t4, hx, n2, n1, gr, getV, encRecd, rec0, nod0, show (0 : Int) < (l.length : Int) + 1 by omega]
      | nil =>
        rw [encRS] at hx
        have hw := got_few hf hl gE rfl
        rw [recGet_end gE rfl]
        simp -implicitDefEqProofs [t4, t5, hx, n2, n3, gd]
        refine callQ_p (refMay_ok _ hw.1 (by have := hw.2.1; omega) (by have := hw.2.2.2.1; omega) (by have := hw.2.2.2.2; omega)) (by simp [encRecd]) ?_
        cases hm : recMay ⟨2, 0, 0, [], 0, ⟨w1, w2, w3, bk, A, B⟩, [r0, r1, r2, r3], L⟩
        · simp -implicitDefEqProofs [t2, t4, n1, gr, getV, encRecd, rec0, nod0]
        · simp -implicitDefEqProofs [t2, t4, t5, n1, n3, gr, gd, getV, encRecd]

theorem refGet_ok (f : Frm) (hf : f.wf) (hl : f.words.length ≤ 1000) : PCall Try.prog 29 [.agg (encFrm f)] (getV (recGet f)) := by
  by_cases k1 : f.kind = 1
  · exact refGet1_ok f hf hl k1
  by_cases k2 : f.kind = 2
  · exact refGet2_ok f hf hl k2
  by_cases k3 : f.kind = 3
  · exact refGet3_ok f hf hl k3
  · exact refGet0_ok f hf hl k1 k2 k3
end Go.Proofs

/- The statement RecsGet. -/
namespace Go.Proofs
open Go Go.RowKit Go.Am

theorem recGet_few {f : Frm} (hf : f.wf) {x : Recd} (h : recGet f = some x) : x.few := by
  unfold recGet at h
  cases hr : rdRec f.kind f.words with
  | none => rw [hr] at h; cases h
  | some p =>
    obtain ⟨y, l'⟩ := p
    rw [hr] at h
    simp only [Option.bind_some] at h
    split at h
    · cases h
      exact rdRec_all hf.1 _ _ _ hf.2.2 hr
    · cases h
theorem rec0_wf : rec0.wf := by simp [rec0, Recd.wf, inI, nod0_wf, maxLen]
theorem getV_rec {f : Frm} (hf : f.wf) : ∃ (y : Recd) (b : Bool), y.wf ∧ getV (recGet f) = .tup [.agg (encRecd y), .bool b] := by
  cases h : recGet f with
  | none => exact ⟨rec0, false, rec0_wf, rfl⟩
  | some x => exact ⟨x, true, (recGet_few hf h).1, rfl⟩

set_option maxHeartbeats 1000000 in
theorem recsGet_ok (f : Frm) (hf : f.wf) : PCall Try.prog 6 [.agg (encFrm f)] (.bool true) := by
  refine PCall.run hb6 ok6 (by simp) (pures1 (.agg (pure_encFrm f))) (.bool _) ?_
  simp -implicitDefEqProofs [encFrm, H.nil]
  refine callQ_p alive20_ok (by simp) ?_
  by_cases hl : (200 : Int) < f.words.length
  · simp -implicitDefEqProofs [hl]
  have h1 := recGet_ok f hf (by omega)
  have h2 := refGet_ok f hf (by omega)
  obtain ⟨y, b, hy, hv⟩ := getV_rec hf
  have hs := refRecsSame_ok y y hy hy
  rw [hv] at h1 h2
  rw [decide_eq_true rfl] at hs
  have la := encRecd_len hy
  have ta : List.take 16 (encRecd y) = encRecd y := List.take_of_length_le (by omega)
  have wka : List.map Am.wk (encRecd y) = encRecd y := by simp
  generalize encRecd y = A at *
  simp -implicitDefEqProofs [hl]
  refine callQ_p h1 (by simp [encFrm]) ?_
  simp -implicitDefEqProofs [la]
  refine callQ_p h2 (by simp [encFrm]) ?_
  simp -implicitDefEqProofs [la, ta]
  refine callQ_p hs (by simp [wka]) ?_
  simp -implicitDefEqProofs []
end Go.Proofs
