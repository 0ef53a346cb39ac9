/- What the functions that the statement reaches do: their contracts; and what follows of it. -/
import Derived.Test.YtdcpendppalkgaaSRecsCut10
import Derived.Test.YtdcpendppalkgaaSRecsCut11
import Derived.Test.YtdcpendppalkgaaSRecsCut7
import Derived.Test.YtdcpendppalkgaaSRecsCut4
import Derived.Test.YtdcpendppalkgaaSRecsCut8
import Derived.Test.YtdcpendppalkgaaSRecsCut6
/- A record that is read whole is written as the words that were read: plain law. -/
namespace Go.Proofs
open Go Go.RowKit Go.Am

/-- What is read is written as the words that were read. -/
def RdEx {α : Type} (p : Rd α) (W : α → List Nat) : Prop := ∀ l a l', p l = some (a, l') → l = W a ++ l'
theorem RdEx.bind {α β : Type} {p : Rd α} {q : α → Rd β} {W : α → List Nat} {V : β → List Nat} (hp : RdEx p W) (hq : ∀ (a : α) (l : List Nat) (b : β) (l' : List Nat), p (W a ++ l) = some (a, l) → q a l = some (b, l') → W a ++ l = V b ++ l') : RdEx (p.bind q) V := fun l b l' h => by
  unfold Rd.bind at h
  cases hpl : p l with
  | none => rw [hpl] at h; cases h
  | some x =>
    obtain ⟨a, l1⟩ := x
    rw [hpl] at h
    have e := hp _ _ _ hpl
    rw [e]
    exact hq a l1 b l' (by rw [← e]; exact hpl) h
theorem ex_count (most : Int) : RdEx (rdCount most) fun n => [n.toNat] := fun l a l' h => by
  cases l with
  | nil => cases h
  | cons w r =>
    have e : rdCount most (w :: r) = if 0 ≤ most ∧ (w : Int) ≤ most then some ((w : Int), r) else none := rfl
    rw [e] at h
    split at h
    · cases h; simp
    · cases h
theorem signed_backI (w : Nat) : signed (backI w) = w := by
  unfold backI signed
  split <;> split <;> omega
theorem ex_signed : RdEx rdSigned fun n => [signed n] := fun l a l' h => by
  cases l with
  | nil => cases h
  | cons w r =>
    have e : rdSigned (w :: r) = some (backI w, r) := rfl
    rw [e] at h
    cases h
    simp [signed_backI]
theorem ex_flag : RdEx rdFlag fun b => [if b then 1 else 0] := fun l a l' h => by
  cases l with
  | nil => simp [rdFlag, rdCount] at h
  | cons w r =>
    have e : rdFlag (w :: r) = (if 0 ≤ (1 : Int) ∧ (w : Int) ≤ 1 then some ((w : Int), r) else none).map fun p => (decide (p.1 = 1), p.2) := rfl
    rw [e] at h
    by_cases hc : 0 ≤ (1 : Int) ∧ (w : Int) ≤ 1
    · rw [if_pos hc] at h
      simp only [Option.map_some, Option.some.injEq, Prod.mk.injEq] at h
      obtain ⟨h1, h2⟩ := h
      subst h1 h2
      have : w = 0 ∨ w = 1 := by omega
      rcases this with rfl | rfl <;> rfl
    · rw [if_neg hc] at h
      cases h
theorem rep_len {α : Type} (p : Rd α) : ∀ (n : Nat) (l : List Nat) (L : List α) (l' : List Nat), Rd.rep p n l = some (L, l') → L.length = n
  | 0, l, L, l', h => by cases h; rfl
  | n + 1, l, L, l', h => by
    unfold Rd.rep Rd.bind at h
    cases h1 : Rd.rep p n l with
    | none => rw [h1] at h; cases h
    | some x =>
      obtain ⟨L1, l1⟩ := x
      rw [h1] at h
      simp only [Option.bind_some] at h
      have hl := rep_len p n l L1 l1 h1
      cases h2 : p l1 with
      | none => rw [h2] at h; cases h
      | some y =>
        obtain ⟨a, l2⟩ := y
        rw [h2] at h
        cases h
        simp [hl]
theorem ex_rep {α : Type} {p : Rd α} {W : α → List Nat} (hp : RdEx p W) : ∀ n : Nat, RdEx (Rd.rep p n) fun L => L.flatMap W
  | 0 => fun l L l' h => by cases h; rfl
  | n + 1 => fun l L l' h => by
    unfold Rd.rep Rd.bind at h
    cases h1 : Rd.rep p n l with
    | none => rw [h1] at h; cases h
    | some x =>
      obtain ⟨L1, l1⟩ := x
      rw [h1] at h
      simp only [Option.bind_some] at h
      have hl := ex_rep hp n l L1 l1 h1
      cases h2 : p l1 with
      | none => rw [h2] at h; cases h
      | some y =>
        obtain ⟨a, l2⟩ := y
        rw [h2] at h
        have h3 := hp _ _ _ h2
        cases h
        rw [hl, h3]
        simp
theorem ex_list {α : Type} {p : Rd α} {W : α → List Nat} (hp : RdEx p W) (most : Int) : RdEx ((rdCount most).bind fun n => Rd.rep p n.toNat) fun L => [L.length] ++ L.flatMap W :=
  (ex_count most).bind fun n l L l' _ h => by
    have h1 := rep_len p _ _ _ _ h
    have h2 := ex_rep hp _ _ _ _ h
    rw [h1, h2]
    simp
theorem ex_pure {α : Type} {a b : α} {l l' : List Nat} (h : Rd.pure a l = some (b, l')) : a = b ∧ l = l' := by
  cases h
  exact ⟨rfl, rfl⟩
theorem ex_args : RdEx rdArgs fun l => writeAll (argsI l) := fun l a l' h => by
  have := ex_list (ex_count 99) 3 l a l' h
  show l = writeAll (argsI a) ++ l'
  rw [argsW, writeAll_flat]
  exact this
theorem ex_spn : RdEx rdSpn fun s => writeAll (spnI s) := (ex_count 999).bind fun a l s l' _ h => by
  have := (ex_count 999).bind (q := fun b => Rd.pure (⟨a, b⟩ : Spn)) (V := fun s => [s.hi.toNat]) (fun b l s l' _ h => by obtain ⟨rfl, rfl⟩ := ex_pure h; rfl) l s l' h
  have e : s.lo = a := by
    unfold Rd.bind at h
    cases hc : rdCount 999 l with
    | none => rw [hc] at h; cases h
    | some x => rw [hc] at h; cases h; rfl
  rw [this, w_spn, e]
  rfl
theorem ex_spns : RdEx rdSpns fun l => writeAll (spnsI l) := fun l a l' h => by
  have := ex_list ex_spn 8 l a l' h
  show l = writeAll (spnsI a) ++ l'
  rw [spnsW, writeAll_flat]
  exact this
/-- A piece more of words ahead. -/
def RdTo {α : Type} (q : Rd α) (ws : List Nat) (V : α → List Nat) : Prop := ∀ l b l', q l = some (b, l') → ws ++ l = V b ++ l'
theorem RdTo.of {α : Type} {q : Rd α} {V : α → List Nat} (h : RdTo q [] V) : RdEx q V := fun l b l' hq => h l b l' hq
theorem RdTo.bind {α β : Type} {p : Rd α} {q : α → Rd β} {W : α → List Nat} {V : β → List Nat} {ws : List Nat} (hp : RdEx p W) (hq : ∀ a, RdTo (q a) (ws ++ W a) V) : RdTo (p.bind q) ws V := fun l b l' h => by
  unfold Rd.bind at h
  cases hpl : p l with
  | none => rw [hpl] at h; cases h
  | some x =>
    obtain ⟨a, l1⟩ := x
    rw [hpl] at h
    rw [hp _ _ _ hpl, ← List.append_assoc]
    exact hq a l1 b l' h
theorem RdTo.pure {α : Type} {a : α} {ws : List Nat} {V : α → List Nat} (h : ws = V a) : RdTo (Rd.pure a) ws V := fun l b l' hq => by
  obtain ⟨rfl, rfl⟩ := ex_pure hq
  rw [h]
theorem ex_chg : RdEx rdChg fun c => writeAll (chgI c) := RdTo.of (.bind (ex_count _) fun _ => .bind ex_flag fun _ => .bind ex_signed fun _ => .pure (by rw [w_chg]; rfl))
theorem ex_chgs : RdEx rdChgs fun l => writeAll (chgsI l) := fun l a l' h => by
  have := ex_list ex_chg 8 l a l' h
  show l = writeAll (chgsI a) ++ l'
  rw [chgsW, writeAll_flat]
  exact this
def nodW (n : Nod) : List Nat := writeAll [iN n.saga 12, iN n.cls 4, iN n.step 4, iF n.back] ++ (writeAll (spnsI n.reads) ++ writeAll (spnsI n.writes))
theorem ex_nod : RdEx rdNod nodW := RdTo.of (.bind (ex_count _) fun _ => .bind (ex_count _) fun _ => .bind (ex_count _) fun _ => .bind ex_flag fun _ => .bind ex_spns fun _ => .bind ex_spns fun _ => .pure (by simp [nodW, writeAll, w_iN, w_iF]))
theorem ex_sub : RdEx rdSubR recW := by
  unfold rdSubR
  refine RdTo.of (.bind (ex_count _) fun c => .bind ex_args fun a => .pure ?_)
  show [] ++ [c.toNat] ++ writeAll (argsI a) = writeAll (iN c 4 :: argsI a)
  rw [writeAll_cons, w_iN]
  simp
theorem ex_step : RdEx rdStepR recW := by
  unfold rdStepR
  refine RdTo.of (.bind ex_nod fun n => .bind (ex_rep ex_signed 4) fun r => .bind ex_chgs fun c => .pure ?_)
  have e : writeAll (r.map iX) = r.flatMap fun x => [signed x] := by simp [writeAll, List.flatMap_map, w_iX]
  show [] ++ nodW n ++ (r.flatMap fun x => [signed x]) ++ writeAll (chgsI c) = writeAll (stepI ⟨2, 0, 0, [], 0, n, r, c⟩)
  rw [stepI, writeAll_app, writeAll_app, writeAll_app, writeAll_app, e]
  simp [nodW]
theorem ex_ab : RdEx rdAbR recW := by
  unfold rdAbR
  refine RdTo.of (.bind (ex_count _) fun c => .bind (ex_count _) fun a => .pure ?_)
  show [] ++ [c.toNat] ++ [a.toNat] = writeAll [iN c 12, iN a 15]
  rfl
theorem ex_rec {k : Int} (hk : k = 1 ∨ k = 2 ∨ k = 3) : RdEx (rdRec k) recW := by
  rcases hk with rfl | rfl | rfl
  · exact ex_sub
  · exact ex_step
  · exact ex_ab
theorem kind_rec {k : Int} {l l' : List Nat} {x : Recd} (h : rdRec k l = some (x, l')) : x.kind = k := by
  have hP : ∀ {α : Type} {p : Rd α} {q : α → Rd Recd} {m : List Nat} {y : Recd} {m' : List Nat}, (∀ a m y m', q a m = some (y, m') → y.kind = k) → (p.bind q) m = some (y, m') → y.kind = k := fun {α p q m y m'} hq hb => by
    unfold Rd.bind at hb
    cases hp : p m with
    | none => rw [hp] at hb; cases hb
    | some x => rw [hp] at hb; exact hq _ _ _ _ hb
  have hU : ∀ {z y : Recd} {m m' : List Nat}, z.kind = k → Rd.pure z m = some (y, m') → y.kind = k := fun hz hb => by obtain ⟨rfl, rfl⟩ := ex_pure hb; exact hz
  unfold rdRec at h
  split at h
  · rename_i k1; subst k1
    exact hP (fun _ _ _ _ => hP fun _ _ _ _ => hU rfl) h
  · split at h
    · rename_i k1; subst k1
      exact hP (fun _ _ _ _ => hP fun _ _ _ _ => hP fun _ _ _ _ => hU rfl) h
    · split at h
      · rename_i k1; subst k1
        exact hP (fun _ _ _ _ => hP fun _ _ _ _ => hU rfl) h
      · exact hU rfl h
theorem may_kind {x : Recd} (h : recMay x = true) : x.kind = 1 ∨ x.kind = 2 ∨ x.kind = 3 := by
  rcases may_cases h with ⟨h, _⟩ | ⟨h, _⟩ | h <;> simp [h]
/-- A frame that has a record is that record's. -/
theorem recGet_put {f : Frm} {x : Recd} (h : recGet f = some x) : recMay x = true ∧ x.kind = f.kind ∧ recW x = f.words := by
  unfold recGet at h
  cases hr : rdRec f.kind f.words with
  | none => rw [hr] at h; cases h
  | some p =>
    obtain ⟨y, l'⟩ := p
    rw [hr] at h
    simp only [Option.bind_some] at h
    split at h
    · rename_i hc
      obtain ⟨h1, h2⟩ := hc
      cases h
      subst h1
      have hk := kind_rec hr
      refine ⟨h2, hk, ?_⟩
      have := ex_rec (by rw [← hk]; exact may_kind h2) _ _ _ hr
      rw [this]
      simp
    · cases h
end Go.Proofs

/- The document's record of a frame. -/
namespace Go.Proofs
open Go Go.RowKit Go.Am

def zero16 : List AV := [.int .i64 0, .int .i64 0, .int .i64 0, .sl .full [], .int .i64 0, .int .i64 0, .int .i64 0, .int .i64 0, .bool false, .sl .full [], .sl .full [], .int .i64 0, .int .i64 0, .int .i64 0, .int .i64 0, .sl .full []]
/-- Where the document's reading of a frame stands. -/
structure GD (h1 : H) (C : List AV) (s1 : RS) : Prop where
  bn : h1.bn = 4
  is : RIs h1 2 s1
  r : h1.bx 1 = some zero16
  d : h1.bx 3 = some C
theorem GD.rd {h : H} {C : List AV} {s s' : RS} (a : GD h C s) (q : RIs (h.set 2 (encRS s')) 2 s') : GD (h.set 2 (encRS s')) C s' :=
  ⟨by simpa using a.bn, q, by simp [a.r], by simp [a.d]⟩
theorem GD.setD {h : H} {C C' : List AV} {s : RS} (a : GD h C s) : GD (h.set 3 C') C' s :=
  ⟨by simpa using a.bn, a.is.setO (by omega), by simp [a.r], by simp⟩
theorem GD.app {h h3 : H} {C : List AV} {s : RS} {t : Tok} (a : GD h C s) (f : HF h h3 (fun _ => False) (TOwn t)) (e : h3.bn = h.bn) : GD h3 C s :=
  ⟨by rw [e, a.bn], ⟨by rw [e, a.bn]; omega, by rw [f.bx 2 (by rw [a.bn]; omega) fun h => h, a.is.bx], a.is.bd⟩, by rw [f.bx 1 (by rw [a.bn]; omega) fun h => h, a.r], by rw [f.bx 3 (by rw [a.bn]; omega) fun h => h, a.d]⟩

end Go.Proofs

/- The statement RecsGet. -/
namespace Go.Proofs
open Go Go.RowKit Go.Am

theorem recGet_few {f : Frm} (hf : f.wf) {x : Recd} (h : recGet f = some x) : x.few := by
  unfold recGet at h
  cases hr : rdRec f.kind f.words with
  | none => rw [hr] at h; cases h
  | some p =>
    obtain ⟨y, l'⟩ := p
    rw [hr] at h
    simp only [Option.bind_some] at h
    split at h
    · cases h
      exact rdRec_all hf.1 _ _ _ hf.2.2 hr
    · cases h
end Go.Proofs

/- The statement RecsSame. -/
namespace Go.Proofs
open Go Go.RowKit Go.Am

end Go.Proofs

/- The document's frame of a record. -/
namespace Go.Proofs
open Go Go.RowKit Go.Am

theorem count20_ok (n m : Int) : PCall Try.prog 77 [.int .i64 n, .int .i64 m] (.agg (encItm (iN n m))) := by
  refine PCall.run hb77 ok77 (by simp) (pures2 (.int _ _) (.int _ _)) (.agg (pure_encI _)) ?_
  simp -implicitDefEqProofs [H.nil, encItm, iN]
theorem flag20_ok (r : Bool) : PCall Try.prog 78 [.bool r] (.agg (encItm (iF r))) := by
  refine PCall.run hb78 ok78 (by simp) (pures1 (.bool _)) (.agg (pure_encI _)) ?_
  cases r
  · simp -implicitDefEqProofs [H.nil, encItm, iF]
  · simp -implicitDefEqProofs [H.nil, encItm, iF]

theorem it_args {l : List Int} (h : ∀ a ∈ l, inI a) (hl : l.length ≤ 100) : ∀ i ∈ argsI l, itOK i := fun i hi => by
  simp only [argsI, List.mem_cons, List.mem_flatMap, argI, List.not_mem_nil, or_false] at hi
  rcases hi with rfl | ⟨a, ha, rfl⟩
  · exact it_N (by simp only [inI]; omega)
  · exact it_N (h a ha)
theorem it_spns {l : List Spn} (h : ∀ a ∈ l, a.wf) (hl : l.length ≤ 100) : ∀ i ∈ spnsI l, itOK i := fun i hi => by
  simp only [spnsI, List.mem_cons, List.mem_flatMap, spnI, List.not_mem_nil, or_false] at hi
  rcases hi with rfl | ⟨a, ha, rfl | rfl⟩
  · exact it_N (by simp only [inI]; omega)
  · exact it_N (h a ha).1
  · exact it_N (h a ha).2
theorem it_chgs {l : List Chg} (h : ∀ a ∈ l, a.wf) (hl : l.length ≤ 100) : ∀ i ∈ chgsI l, itOK i := fun i hi => by
  simp only [chgsI, List.mem_cons, List.mem_flatMap, chgI, List.not_mem_nil, or_false] at hi
  rcases hi with rfl | ⟨a, ha, rfl | rfl | rfl⟩
  · exact it_N (by simp only [inI]; omega)
  · exact it_N (h a ha).1
  · exact it_F _
  · exact it_X (h a ha).2
theorem it_rec {x : Recd} (hx : x.wf) (ha : x.args.length ≤ 100) (hc : x.changes.length ≤ 100) (hr : x.node.reads.length ≤ 100) (hw : x.node.writes.length ≤ 100) : ∀ i ∈ recI x, itOK i := fun i hi => by
  obtain ⟨w1, w2, w3, ⟨_, w4⟩, w5, ⟨n1, n2, n3, ⟨_, n4⟩, ⟨_, n5⟩⟩, ⟨_, w7⟩, ⟨_, w8⟩⟩ := hx
  unfold recI at hi
  split at hi
  · rcases List.mem_cons.1 hi with rfl | hi
    · exact it_N w3
    · exact it_args w4 ha i hi
  · split at hi
    · simp only [stepI, List.mem_append, List.mem_cons, List.not_mem_nil, or_false, List.mem_map] at hi
      rcases hi with ((hi | hi | hi) | ⟨r, hi, rfl⟩) | hi
      · rcases hi with rfl | rfl | rfl | rfl
        · exact it_N n1
        · exact it_N n2
        · exact it_N n3
        · exact it_F _
      · exact it_spns n4 hr i hi
      · exact it_spns n5 hw i hi
      · exact it_X (w7 r hi)
      · exact it_chgs w8 hc i hi
    · simp only [List.mem_cons, List.not_mem_nil, or_false] at hi
      rcases hi with rfl | rfl
      · exact it_N w2
      · exact it_N w5
theorem recI_len {x : Recd} (hr4 : x.regs.length = 4) (ha : x.args.length ≤ 100) (hc : x.changes.length ≤ 100) (hr : x.node.reads.length ≤ 100) (hw : x.node.writes.length ≤ 100) : (recI x).length ≤ 1000 := by
  have e1 : ∀ l : List Int, (l.flatMap argI).length = 1 * l.length := flat_len _ 1 fun _ => rfl
  have e2 : ∀ l : List Spn, (l.flatMap spnI).length = 2 * l.length := flat_len _ 2 fun _ => rfl
  have e3 : ∀ l : List Chg, (l.flatMap chgI).length = 3 * l.length := flat_len _ 3 fun _ => rfl
  unfold recI
  split
  · rw [List.length_cons, argsI, List.length_cons, e1]; omega
  · split
    · simp only [stepI, spnsI, chgsI, List.length_append, List.length_cons, List.length_nil, List.length_map, e2, e3, hr4]; omega
    · simp
theorem stay2 {h h2 : H} {t : Tok} {C R : List AV} (e : HF h h2 (fun _ => False) (TOwn t)) (hn : h2.bn = h.bn) (a : 1 < h.bn) (b : h.bx 0 = some C) (c : h.bx 1 = some R) : 0 < h2.bn ∧ 1 < h2.bn ∧ h2.bx 0 = some C ∧ h2.bx 1 = some R :=
  ⟨by omega, by omega, by rw [e.bx 0 (by omega) fun h => h, b], by rw [e.bx 1 (by omega) fun h => h, c]⟩
theorem encItm_six (i : Item) : (encItm i).length = 6 := rfl

theorem refPut_fin (L : List Item) (k : Int) (C : List AV) (h1 : L.length ≤ 1000) (h2 : ∀ i ∈ L, itOK i) (s : Slots) (h : H) (t : Tok) (es : List (List AV)) (s1 : s 1 = .ptr 0 0) (s2 : s 2 = .ptr 1 0) (s3 : s 3 = .sl t es) (hA : AreI es L) (hn : 1 < h.bn) (b0 : h.bx 0 = some (.int .i64 k :: C)) (b1 : h.bx 1 = some [.int .i64 0, .sl .full []]) :
    Run Try.prog false [It.c (IR.dreg c30_r38 c30_a38), It.c IR.ret] (retQ [ResA.cell 2 2 true] fun r' _ => Am.wk r' = AV.agg [AV.int IntKind.i64 k, AV.sl Tok.no (List.map w64 (writeAll L))]) s h := by
  have hn0 : 0 < h.bn := by omega
  refine run_dreg c30_d38 ?_
  simp -implicitDefEqProofs [s1, s3, b0, hn0]
  have hA2 := hA
  unfold AreI at hA2
  refine lcallQ_p (refWords_ok L (by omega) fun i hi => ⟨(h2 i hi).1, by rw [(h2 i hi).2]; exact Nat.zero_le _⟩) (by simpa [encIs] using hA2) ?_
  simp -implicitDefEqProofs [s2, b0, b1, hn, hn0]
end Go.Proofs

/- The document's frame of a record, whole. -/
namespace Go.Proofs
open Go Go.RowKit Go.Am

set_option maxHeartbeats 4000000 in
theorem refPut1_ok (x : Recd) (k : x.kind = 1) (hx : x.wf) (ha : x.args.length ≤ 100) (hc : x.changes.length ≤ 100) (hr : x.node.reads.length ≤ 100) (hw : x.node.writes.length ≤ 100) : PCall Try.prog 30 [.agg (encRecd x)] (.agg [.int .i64 x.kind, encW (recW x)]) := by
  have p := pures1 (.agg (pure_encRecd x))
  have hL := recI_len hx.2.2.2.2.2.2.1.1 ha hc hr hw
  have hI := it_rec hx ha hc hr hw
  obtain ⟨r0, r1, r2, r3, ra⟩ := regs_four hx.2.2.2.2.2.2.1.1
  rw [encRecd_cells ra] at p ⊢
  refine PCall.run hb30 ok30 (by simp) p (.agg (pures_cons (.int _ _) (pures1 (pure_w64 _)))) ?_
  have hRI : recI x = iN x.cls 4 :: argsI x.args := by rw [recI, if_pos k]
  rw [recW]
  simp -implicitDefEqProofs [cellsR, H.nil, k]
  refine run_dreg c30_d5 ?_
  simp -implicitDefEqProofs []
  refine lcallQ_p (count20_ok x.cls 4) (by simp) ?_
  simp -implicitDefEqProofs []
  refine lcallQ_p (count20_ok x.args.length 3) (by simp) ?_
  simp -implicitDefEqProofs [encItm_six]
  refine appQ_i (a := []) (b := [iN x.cls 4, iN x.args.length 3]) (by simp [AreI]) (by simp [AreI]) (by simp [TLive]) (by simp) fun t1 h2 e1 a1 q1 q2 q3 => ?_
  obtain ⟨n0, n1, b0, b1⟩ := stay2 q2 q3 (by simp) (by simp; rfl) (by simp; rfl)
  rw [List.nil_append] at a1
  simp -implicitDefEqProofs [n0, b0]
  refine run_loop (fun m S h1 => ∃ (j : Nat) (t : Tok), m = x.args.length - j ∧ j ≤ x.args.length ∧ S 1 = .ptr 0 0 ∧ S 2 = .ptr 1 0 ∧ (∃ es, S 3 = .sl t es ∧ AreI es ([iN x.cls 4, iN x.args.length 3] ++ (x.args.take j).flatMap argI) ∧ TLive h1 t es.length) ∧ S 4 = .int .i64 j ∧ 0 < h1.bn ∧ 1 < h1.bn ∧ h1.bx 0 = h2.bx 0 ∧ h1.bx 1 = h2.bx 1) ?_ x.args.length ?_
  rotate_left
  · exact ⟨0, t1, rfl, Nat.zero_le _, by simp, by simp, ⟨e1, by simp, by simpa using a1, q1⟩, by simp, n0, n1, rfl, rfl⟩
  rw [b0, b1]
  clear a1 q1 q2 q3 n0 n1
  rintro m S h1 ⟨j, t, hm, hj, s1, s2, ⟨es, s3, hA, hT⟩, s4, n0, n1, c0, c1⟩ ih
  by_cases hlt : j < x.args.length
  · have he := flat_snoc argI hlt
    have i1 := idxOf_nat (k := .i64) hlt
    generalize hAA : [iN x.cls 4, iN x.args.length 3] ++ (x.args.take j).flatMap argI = A at hA
    have hAl : A.length ≤ 200 := by rw [← hAA, List.length_append, flat_len argI 1 fun _ => rfl, List.length_take]; simp only [List.length_cons, List.length_nil]; omega
    simp -implicitDefEqProofs [s1, s3, s4, n0, c0, hlt, encN]
    refine callQ_p (count20_ok x.args[j] 99) (by simp) ?_
    simp -implicitDefEqProofs [encItm_six]
    refine appQ_i (b := [iN x.args[j] 99]) hA (by simp [AreI]) hT (by simp only [List.length_cons, List.length_nil]; omega) fun t2 h3 e2 a2 q1 q2 q3 => ?_
    obtain ⟨m0, m1, d0, d1⟩ := stay2 q2 q3 n1 c0 c1
    have hfin : A ++ [iN x.args[j] 99] = [iN x.cls 4, iN x.args.length 3] ++ (x.args.take (j + 1)).flatMap argI := by rw [he, ← hAA]; simp [argI]
    rw [hfin] at a2
    simp -implicitDefEqProofs [s4, inc_i64 hlt (show x.args.length ≤ _ by omega), -Int.natCast_add]
    exact ih (x.args.length - (j + 1)) _ _ (by omega) ⟨j + 1, t2, rfl, by omega, by simp [s1], by simp [s2], ⟨e2, by simp, a2, q1⟩, by simp, m0, m1, d0, d1⟩
  · obtain rfl : j = x.args.length := by omega
    rw [List.take_length] at hA
    simp -implicitDefEqProofs [s1, s4, n0, c0]
    rw [show writeAll (recI x) = writeAll ([iN x.cls 4, iN x.args.length 3] ++ x.args.flatMap argI) by rw [hRI]; rfl]
    rw [show recI x = [iN x.cls 4, iN x.args.length 3] ++ x.args.flatMap argI by rw [hRI]; rfl] at hL hI
    exact refPut_fin _ _ _ hL hI _ _ t es (by simp [s1]) (by simp [s2]) (by simp [s3]) hA n1 c0 c1

set_option maxHeartbeats 4000000 in
theorem refPut3_ok (x : Recd) (k1 : ¬ x.kind = 1) (k2 : ¬ x.kind = 2) (hx : x.wf) (ha : x.args.length ≤ 100) (hc : x.changes.length ≤ 100) (hr : x.node.reads.length ≤ 100) (hw : x.node.writes.length ≤ 100) : PCall Try.prog 30 [.agg (encRecd x)] (.agg [.int .i64 x.kind, encW (recW x)]) := by
  have p := pures1 (.agg (pure_encRecd x))
  have hL := recI_len hx.2.2.2.2.2.2.1.1 ha hc hr hw
  have hI := it_rec hx ha hc hr hw
  obtain ⟨r0, r1, r2, r3, ra⟩ := regs_four hx.2.2.2.2.2.2.1.1
  rw [encRecd_cells ra] at p ⊢
  refine PCall.run hb30 ok30 (by simp) p (.agg (pures_cons (.int _ _) (pures1 (pure_w64 _)))) ?_
  have hRI : recI x = [iN x.saga 12, iN x.why 15] := by rw [recI, if_neg k1, if_neg k2]
  rw [recW]
  simp -implicitDefEqProofs [cellsR, H.nil, k1, k2]
  refine run_dreg c30_d37 ?_
  simp -implicitDefEqProofs []
  refine lcallQ_p (count20_ok x.saga 12) (by simp) ?_
  simp -implicitDefEqProofs []
  refine lcallQ_p (count20_ok x.why 15) (by simp) ?_
  simp -implicitDefEqProofs [encItm_six]
  refine appQ_i (a := []) (b := [iN x.saga 12, iN x.why 15]) (by simp [AreI]) (by simp [AreI]) (by simp [TLive]) (by simp) fun t1 h2 e1 a1 q1 q2 q3 => ?_
  obtain ⟨n0, n1, b0, b1⟩ := stay2 q2 q3 (by simp) (by simp; rfl) (by simp; rfl)
  rw [List.nil_append, ← hRI] at a1
  simp -implicitDefEqProofs [n0, b0]
  exact refPut_fin _ _ _ hL hI _ _ t1 e1 (by simp) (by simp) (by simp) a1 n1 b0 b1
end Go.Proofs

/- The document's frame of a step's record. -/
namespace Go.Proofs
open Go Go.RowKit Go.Am

theorem stay3 {h h2 : H} {t : Tok} {C R N : List AV} (e : HF h h2 (fun _ => False) (TOwn t)) (hn : h2.bn = h.bn) (a : 2 < h.bn) (b : h.bx 0 = some C) (c : h.bx 1 = some R) (d : h.bx 2 = some N) : 0 < h2.bn ∧ 1 < h2.bn ∧ 2 < h2.bn ∧ h2.bx 0 = some C ∧ h2.bx 1 = some R ∧ h2.bx 2 = some N :=
  ⟨by omega, by omega, by omega, by rw [e.bx 0 (by omega) fun h => h, b], by rw [e.bx 1 (by omega) fun h => h, c], by rw [e.bx 2 (by omega) fun h => h, d]⟩
set_option maxHeartbeats 8000000 in
theorem refPut2_ok (x : Recd) (k : x.kind = 2) (hx : x.wf) (ha : x.args.length ≤ 100) (hc : x.changes.length ≤ 100) (hr : x.node.reads.length ≤ 100) (hw : x.node.writes.length ≤ 100) : PCall Try.prog 30 [.agg (encRecd x)] (.agg [.int .i64 x.kind, encW (recW x)]) := by
  have p := pures1 (.agg (pure_encRecd x))
  have hL := recI_len hx.2.2.2.2.2.2.1.1 ha hc hr hw
  have hI := it_rec hx ha hc hr hw
  obtain ⟨r0, r1, r2, r3, ra⟩ := regs_four hx.2.2.2.2.2.2.1.1
  rw [encRecd_cells ra] at p ⊢
  refine PCall.run hb30 ok30 (by simp) p (.agg (pures_cons (.int _ _) (pures1 (pure_w64 _)))) ?_
  have hRI : recI x = stepI x := by rw [recI, if_neg (by omega), if_pos k]
  rw [recW]
  simp -implicitDefEqProofs [cellsR, H.nil, k]
  refine run_dreg c30_d13 ?_
  simp -implicitDefEqProofs []
  refine lcallQ_p (count20_ok x.node.saga 12) (by simp) ?_
  simp -implicitDefEqProofs []
  refine lcallQ_p (count20_ok x.node.cls 4) (by simp) ?_
  simp -implicitDefEqProofs []
  refine lcallQ_p (count20_ok x.node.step 4) (by simp) ?_
  simp -implicitDefEqProofs []
  refine lcallQ_p (flag20_ok x.node.back) (by simp) ?_
  simp -implicitDefEqProofs [encItm_six]
  refine appQ_i (a := []) (b := [iN x.node.saga 12, iN x.node.cls 4, iN x.node.step 4, iF x.node.back]) (by simp [AreI]) (by simp [AreI]) (by simp [TLive]) (by simp) fun t1 h2 e1 a1 q1 q2 q3 => ?_
  obtain ⟨n0, n1, n2, b0, b1, b2⟩ := stay3 q2 q3 (by simp) (by simp; rfl) (by simp; rfl) (by simp; rfl)
  rw [List.nil_append] at a1
  simp -implicitDefEqProofs [n2, b2]
  refine run_loop (fun m S h1 => ∃ (j : Nat) (t : Tok), m = 2 - j ∧ j ≤ 2 ∧ S 1 = .ptr 0 0 ∧ S 2 = .ptr 1 0 ∧ S 6 = .sl .full [[.sl .no (x.node.reads.map encSpn)], [.sl .no (x.node.writes.map encSpn)]] ∧ (∃ es, S 3 = .sl t es ∧ AreI es ([iN x.node.saga 12, iN x.node.cls 4, iN x.node.step 4, iF x.node.back] ++ ([x.node.reads, x.node.writes].take j).flatMap spnsI) ∧ TLive h1 t es.length) ∧ S 7 = .int .i64 j ∧ 0 < h1.bn ∧ 1 < h1.bn ∧ 2 < h1.bn ∧ h1.bx 0 = h2.bx 0 ∧ h1.bx 1 = h2.bx 1 ∧ h1.bx 2 = h2.bx 2) ?_ 2 ?_
  rotate_left
  · exact ⟨0, t1, rfl, Nat.zero_le _, by simp, by simp, by simp, ⟨e1, by simp, by simpa using a1, q1⟩, by simp, n0, n1, n2, rfl, rfl, rfl⟩
  rw [b0, b1, b2]
  generalize hHD : [iN x.node.saga 12, iN x.node.cls 4, iN x.node.step 4, iF x.node.back] = HD
  have hHDl : HD.length = 4 := by rw [← hHD]; rfl
  clear a1 q1 q2 q3 n0 n1 n2 b0 b1 b2 h2
  rintro m S h1 ⟨j, t, hm, hj, s1, s2, s6, ⟨es, s3, hA, hT⟩, s7, n0, n1, n2, c0, c1, c2⟩ ih
  rcases (by omega : j = 0 ∨ j = 1 ∨ j = 2) with rfl | rfl | rfl
  · replace hA : AreI es HD := by simpa using hA
    simp -implicitDefEqProofs [s3, s6, s7]
    refine callQ_p (count20_ok x.node.reads.length 8) (by simp) ?_
    simp -implicitDefEqProofs [encItm_six]
    refine appQ_i (b := [iN x.node.reads.length 8]) hA (by simp [AreI]) hT (by simp only [List.length_cons, List.length_nil]; omega) fun t2 h3 e2 a2 q1 q2 q3 => ?_
    obtain ⟨m0, m1, m2, d0, d1, d2⟩ := stay3 q2 q3 n2 c0 c1 c2
    simp -implicitDefEqProofs []
    refine run_loop (fun m S h1 => ∃ (i : Nat) (t : Tok), m = x.node.reads.length - i ∧ i ≤ x.node.reads.length ∧ S 1 = .ptr 0 0 ∧ S 2 = .ptr 1 0 ∧ S 6 = .sl .full [[.sl .no (x.node.reads.map encSpn)], [.sl .no (x.node.writes.map encSpn)]] ∧ (∃ es, S 3 = .sl t es ∧ AreI es (HD ++ (iN x.node.reads.length 8 :: (x.node.reads.take i).flatMap spnI)) ∧ TLive h1 t es.length) ∧ S 7 = .int .i64 0 ∧ S 8 = .int .i64 i ∧ 0 < h1.bn ∧ 1 < h1.bn ∧ 2 < h1.bn ∧ h1.bx 0 = h3.bx 0 ∧ h1.bx 1 = h3.bx 1 ∧ h1.bx 2 = h3.bx 2) ?_ x.node.reads.length ?_
    rotate_left
    · exact ⟨0, t2, rfl, Nat.zero_le _, by simp [s1], by simp [s2], by simp [s6], ⟨e2, by simp, by simpa using a2, q1⟩, by simp [s7], by simp, m0, m1, m2, rfl, rfl, rfl⟩
    rw [d0, d1, d2]
    clear s1 s2 s3 s6 s7 hA hT n0 n1 n2 c0 c1 c2 a2 q1 q2 q3 m0 m1 m2 d0 d1 d2
    rintro m S h1 ⟨i, t, hm, hi, s1, s2, s6, ⟨es, s3, hA, hT⟩, s7, s8, n0, n1, n2, c0, c1, c2⟩ ih2
    by_cases hlt : i < x.node.reads.length
    · have he := flat_snoc spnI hlt
      have i1 := idxOf_nat (k := .i64) hlt
      generalize hAA : HD ++ (iN x.node.reads.length 8 :: (x.node.reads.take i).flatMap spnI) = A at hA
      have hAl : A.length ≤ 600 := by rw [← hAA, List.length_append, List.length_cons, flat_len spnI 2 fun _ => rfl, List.length_take]; omega
      simp -implicitDefEqProofs [s6, s7, s8, hlt]
      refine run_dreg c30_d20 ?_
      simp -implicitDefEqProofs [s3, s6, s7, s8, hlt, encSpn]
      refine lcallQ_p (count20_ok x.node.reads[i].lo 999) (by simp) ?_
      simp -implicitDefEqProofs [s6, s7, s8, hlt, encSpn]
      refine lcallQ_p (count20_ok x.node.reads[i].hi 999) (by simp) ?_
      simp -implicitDefEqProofs [encItm_six]
      refine appQ_i (b := [iN x.node.reads[i].lo 999, iN x.node.reads[i].hi 999]) hA (by simp [AreI]) hT (by simp only [List.length_cons, List.length_nil]; omega) fun t3 h4 e3 a3 q1 q2 q3 => ?_
      obtain ⟨m0, m1, m2, d0, d1, d2⟩ := stay3 q2 q3 n2 c0 c1 c2
      have hfin : A ++ [iN x.node.reads[i].lo 999, iN x.node.reads[i].hi 999] = HD ++ (iN x.node.reads.length 8 :: (x.node.reads.take (i + 1)).flatMap spnI) := by rw [he, ← hAA]; simp [spnI]
      rw [hfin] at a3
      simp -implicitDefEqProofs [s8, inc_i64 hlt (show x.node.reads.length ≤ _ by omega), -Int.natCast_add]
      exact ih2 (x.node.reads.length - (i + 1)) _ _ (by omega) ⟨i + 1, t3, rfl, by omega, by simp [s1], by simp [s2], by simp [s6], ⟨e3, by simp, a3, q1⟩, by simp [s7], by simp, m0, m1, m2, d0, d1, d2⟩
    · obtain rfl : i = x.node.reads.length := by omega
      rw [List.take_length] at hA
      simp -implicitDefEqProofs [s6, s7, s8]
      exact ih 1 _ _ (by omega) ⟨1, t, rfl, by omega, by simp [s1], by simp [s2], by simp [s6], ⟨es, by simp [s3], by simpa [spnsI] using hA, hT⟩, by simp; decide, n0, n1, n2, c0, c1, c2⟩
  · replace hA : AreI es (HD ++ spnsI x.node.reads) := by simpa using hA
    have hP : (HD ++ spnsI x.node.reads).length ≤ 300 := by simp only [List.length_append, spnsI, List.length_cons, flat_len spnI 2 fun _ => rfl]; omega
    generalize hPP : (HD ++ spnsI x.node.reads) = P at *
    simp -implicitDefEqProofs [s3, s6, s7]
    refine callQ_p (count20_ok x.node.writes.length 8) (by simp) ?_
    simp -implicitDefEqProofs [encItm_six]
    refine appQ_i (b := [iN x.node.writes.length 8]) hA (by simp [AreI]) hT (by simp only [List.length_cons, List.length_nil]; omega) fun t2 h3 e2 a2 q1 q2 q3 => ?_
    obtain ⟨m0, m1, m2, d0, d1, d2⟩ := stay3 q2 q3 n2 c0 c1 c2
    simp -implicitDefEqProofs []
    refine run_loop (fun m S h1 => ∃ (i : Nat) (t : Tok), m = x.node.writes.length - i ∧ i ≤ x.node.writes.length ∧ S 1 = .ptr 0 0 ∧ S 2 = .ptr 1 0 ∧ S 6 = .sl .full [[.sl .no (x.node.reads.map encSpn)], [.sl .no (x.node.writes.map encSpn)]] ∧ (∃ es, S 3 = .sl t es ∧ AreI es (P ++ (iN x.node.writes.length 8 :: (x.node.writes.take i).flatMap spnI)) ∧ TLive h1 t es.length) ∧ S 7 = .int .i64 1 ∧ S 8 = .int .i64 i ∧ 0 < h1.bn ∧ 1 < h1.bn ∧ 2 < h1.bn ∧ h1.bx 0 = h3.bx 0 ∧ h1.bx 1 = h3.bx 1 ∧ h1.bx 2 = h3.bx 2) ?_ x.node.writes.length ?_
    rotate_left
    · exact ⟨0, t2, rfl, Nat.zero_le _, by simp [s1], by simp [s2], by simp [s6], ⟨e2, by simp, by simpa using a2, q1⟩, by simp [s7], by simp, m0, m1, m2, rfl, rfl, rfl⟩
    rw [d0, d1, d2]
    clear s1 s2 s3 s6 s7 hA hT n0 n1 n2 c0 c1 c2 a2 q1 q2 q3 m0 m1 m2 d0 d1 d2
    rintro m S h1 ⟨i, t, hm, hi, s1, s2, s6, ⟨es, s3, hA, hT⟩, s7, s8, n0, n1, n2, c0, c1, c2⟩ ih2
    by_cases hlt : i < x.node.writes.length
    · have he := flat_snoc spnI hlt
      have i1 := idxOf_nat (k := .i64) hlt
      generalize hAA : P ++ (iN x.node.writes.length 8 :: (x.node.writes.take i).flatMap spnI) = A at hA
      have hAl : A.length ≤ 600 := by rw [← hAA, List.length_append, List.length_cons, flat_len spnI 2 fun _ => rfl, List.length_take]; omega
      simp -implicitDefEqProofs [s6, s7, s8, hlt]
      refine run_dreg c30_d20 ?_
      simp -implicitDefEqProofs [s3, s6, s7, s8, hlt, encSpn]
      refine lcallQ_p (count20_ok x.node.writes[i].lo 999) (by simp) ?_
      simp -implicitDefEqProofs [s6, s7, s8, hlt, encSpn]
      refine lcallQ_p (count20_ok x.node.writes[i].hi 999) (by simp) ?_
      simp -implicitDefEqProofs [encItm_six]
      refine appQ_i (b := [iN x.node.writes[i].lo 999, iN x.node.writes[i].hi 999]) hA (by simp [AreI]) hT (by simp only [List.length_cons, List.length_nil]; omega) fun t3 h4 e3 a3 q1 q2 q3 => ?_
      obtain ⟨m0, m1, m2, d0, d1, d2⟩ := stay3 q2 q3 n2 c0 c1 c2
      have hfin : A ++ [iN x.node.writes[i].lo 999, iN x.node.writes[i].hi 999] = P ++ (iN x.node.writes.length 8 :: (x.node.writes.take (i + 1)).flatMap spnI) := by rw [he, ← hAA]; simp [spnI]
      rw [hfin] at a3
      simp -implicitDefEqProofs [s8, inc_i64 hlt (show x.node.writes.length ≤ _ by omega), -Int.natCast_add]
      exact ih2 (x.node.writes.length - (i + 1)) _ _ (by omega) ⟨i + 1, t3, rfl, by omega, by simp [s1], by simp [s2], by simp [s6], ⟨e3, by simp, a3, q1⟩, by simp [s7], by simp, m0, m1, m2, d0, d1, d2⟩
    · obtain rfl : i = x.node.writes.length := by omega
      rw [List.take_length] at hA
      simp -implicitDefEqProofs [s6, s7, s8]
      exact ih 0 _ _ (by omega) ⟨2, t, rfl, by omega, by simp [s1], by simp [s2], by simp [s6], ⟨es, by simp [s3], by rw [← hPP] at hA; simpa [spnsI] using hA, hT⟩, by simp; decide, n0, n1, n2, c0, c1, c2⟩
  replace hA : AreI es (HD ++ (spnsI x.node.reads ++ spnsI x.node.writes)) := by simpa using hA
  simp -implicitDefEqProofs [s7]
  generalize hPP : HD ++ (spnsI x.node.reads ++ spnsI x.node.writes) = P at *
  have hP : P.length ≤ 500 := by rw [← hPP]; simp only [List.length_append, spnsI, List.length_cons, flat_len spnI 2 fun _ => rfl]; omega
  refine run_loop (fun m S h1 => ∃ (j : Nat) (t : Tok), m = 4 - j ∧ j ≤ 4 ∧ S 1 = .ptr 0 0 ∧ S 2 = .ptr 1 0 ∧ (∃ es, S 3 = .sl t es ∧ AreI es (P ++ ([r0, r1, r2, r3].take j).map iX) ∧ TLive h1 t es.length) ∧ S 9 = .int .i64 j ∧ 0 < h1.bn ∧ 1 < h1.bn ∧ 2 < h1.bn ∧ h1.bx 0 = h1.bx 0 ∧ h1.bx 1 = some [.int .i64 0, .sl .full []] ∧ h1.bx 0 = some [.int .i64 2, .int .i64 x.saga, .int .i64 x.cls, .sl .no (x.args.map encN), .int .i64 x.why, .int .i64 x.node.saga, .int .i64 x.node.cls, .int .i64 x.node.step, .bool x.node.back, .sl .no (x.node.reads.map encSpn), .sl .no (x.node.writes.map encSpn), .int .i64 r0, .int .i64 r1, .int .i64 r2, .int .i64 r3, .sl .no (x.changes.map encChg)]) ?_ 4 ?_
  rotate_left
  · exact ⟨0, t, rfl, Nat.zero_le _, by simp [s1], by simp [s2], ⟨es, by simp [s3], by simpa using hA, hT⟩, by simp, n0, n1, n2, rfl, c1, c0⟩
  clear s1 s2 s3 s6 s7 hA hT n0 n1 n2 c0 c1 c2
  rintro m S h1 ⟨j, t, hm, hj, s1, s2, ⟨es, s3, hA, hT⟩, s9, n0, n1, n2, _, c1, c0⟩ ih
  rcases (by omega : j = 0 ∨ j = 1 ∨ j = 2 ∨ j = 3 ∨ j = 4) with rfl | rfl | rfl | rfl | rfl
  · simp -implicitDefEqProofs [s1, s3, s9, n0, c0]
    refine appQ_i (b := [iX r0]) hA (by simp [AreI, iX, encItm]) hT (by simp; omega) fun t3 h4 e3 a3 q1 q2 q3 => ?_
    obtain ⟨m0, m1, d0, d1⟩ := stay2 q2 q3 n1 c0 c1
    simp -implicitDefEqProofs [s9]
    exact ih 3 _ _ (by omega) ⟨1, t3, rfl, by omega, by simp [s1], by simp [s2], ⟨e3, by simp, by simpa using a3, q1⟩, by simp; decide, m0, m1, by omega, rfl, d1, d0⟩
  · simp -implicitDefEqProofs [s1, s3, s9, n0, c0]
    refine appQ_i (b := [iX r1]) hA (by simp [AreI, iX, encItm]) hT (by simp; omega) fun t3 h4 e3 a3 q1 q2 q3 => ?_
    obtain ⟨m0, m1, d0, d1⟩ := stay2 q2 q3 n1 c0 c1
    simp -implicitDefEqProofs [s9]
    exact ih 2 _ _ (by omega) ⟨2, t3, rfl, by omega, by simp [s1], by simp [s2], ⟨e3, by simp, by simpa using a3, q1⟩, by simp; decide, m0, m1, by omega, rfl, d1, d0⟩
  · simp -implicitDefEqProofs [s1, s3, s9, n0, c0]
    refine appQ_i (b := [iX r2]) hA (by simp [AreI, iX, encItm]) hT (by simp; omega) fun t3 h4 e3 a3 q1 q2 q3 => ?_
    obtain ⟨m0, m1, d0, d1⟩ := stay2 q2 q3 n1 c0 c1
    simp -implicitDefEqProofs [s9]
    exact ih 1 _ _ (by omega) ⟨3, t3, rfl, by omega, by simp [s1], by simp [s2], ⟨e3, by simp, by simpa using a3, q1⟩, by simp; decide, m0, m1, by omega, rfl, d1, d0⟩
  · simp -implicitDefEqProofs [s1, s3, s9, n0, c0]
    refine appQ_i (b := [iX r3]) hA (by simp [AreI, iX, encItm]) hT (by simp; omega) fun t3 h4 e3 a3 q1 q2 q3 => ?_
    obtain ⟨m0, m1, d0, d1⟩ := stay2 q2 q3 n1 c0 c1
    simp -implicitDefEqProofs [s9]
    exact ih 0 _ _ (by omega) ⟨4, t3, rfl, by omega, by simp [s1], by simp [s2], ⟨e3, by simp, by simpa using a3, q1⟩, by simp; decide, m0, m1, by omega, rfl, d1, d0⟩
  replace hA : AreI es (P ++ [r0, r1, r2, r3].map iX) := by simpa using hA
  simp -implicitDefEqProofs [s1, s3, s9, n0, c0]
  refine callQ_p (count20_ok x.changes.length 8) (by simp) ?_
  simp -implicitDefEqProofs [encItm_six]
  refine appQ_i (b := [iN x.changes.length 8]) hA (by simp [AreI]) hT (by simp; omega) fun t2 h3 e2 a2 q1 q2 q3 => ?_
  obtain ⟨m0, m1, d0, d1⟩ := stay2 q2 q3 n1 c0 c1
  generalize hQQ : P ++ [r0, r1, r2, r3].map iX = Q at *
  have hQ : Q.length ≤ 510 := by rw [← hQQ]; simp; omega
  simp -implicitDefEqProofs []
  refine run_loop (fun m S h1 => ∃ (j : Nat) (t : Tok), m = x.changes.length - j ∧ j ≤ x.changes.length ∧ S 1 = .ptr 0 0 ∧ S 2 = .ptr 1 0 ∧ (∃ es, S 3 = .sl t es ∧ AreI es (Q ++ (iN x.changes.length 8 :: (x.changes.take j).flatMap chgI)) ∧ TLive h1 t es.length) ∧ S 10 = .int .i64 j ∧ 0 < h1.bn ∧ 1 < h1.bn ∧ h1.bx 0 = h3.bx 0 ∧ h1.bx 1 = h3.bx 1) ?_ x.changes.length ?_
  rotate_left
  · exact ⟨0, t2, rfl, Nat.zero_le _, by simp [s1], by simp [s2], ⟨e2, by simp, by simpa using a2, q1⟩, by simp, m0, m1, rfl, rfl⟩
  rw [d0, d1]
  clear s1 s2 s3 s9 hA hT n0 n1 n2 c0 c1 a2 q1 q2 q3 m0 m1 d0 d1
  rintro m S h1 ⟨j, t, hm, hj, s1, s2, ⟨es, s3, hA, hT⟩, s10, n0, n1, c0, c1⟩ ih2
  by_cases hlt : j < x.changes.length
  · have he := flat_snoc chgI hlt
    have i1 := idxOf_nat (k := .i64) hlt
    generalize hAA : Q ++ (iN x.changes.length 8 :: (x.changes.take j).flatMap chgI) = A at hA
    have hAl : A.length ≤ 900 := by rw [← hAA, List.length_append, List.length_cons, flat_len chgI 3 fun _ => rfl, List.length_take]; omega
    have z0 : ¬ (0 : Nat) = h1.bn := by omega
    have z1 : ¬ (1 : Nat) = h1.bn := by omega
    simp -implicitDefEqProofs [s1, s10, n0, c0, hlt, encChg]
    refine run_dreg c30_d34 ?_
    simp -implicitDefEqProofs [s3]
    refine lcallQ_p (count20_ok x.changes[j].key 999) (by simp) ?_
    simp -implicitDefEqProofs []
    refine lcallQ_p (flag20_ok x.changes[j].gone) (by simp) ?_
    simp -implicitDefEqProofs [encItm_six]
    refine appQ_i (b := [iN x.changes[j].key 999, iF x.changes[j].gone, iX x.changes[j].value]) hA (by simp [AreI, iX, encItm]) hT (by simp only [List.length_cons, List.length_nil]; omega) fun t3 h4 e3 a3 q1 q2 q3 => ?_
    have q4 := q2.bx h1.bn (by simp) (fun h => h)
    have q5 : h1.bn < h4.bn := by rw [q3]; simp
    obtain ⟨m0, m1, d0, d1⟩ := stay2 (C := [.int .i64 2, .int .i64 x.saga, .int .i64 x.cls, .sl .no (x.args.map encN), .int .i64 x.why, .int .i64 x.node.saga, .int .i64 x.node.cls, .int .i64 x.node.step, .bool x.node.back, .sl .no (x.node.reads.map encSpn), .sl .no (x.node.writes.map encSpn), .int .i64 r0, .int .i64 r1, .int .i64 r2, .int .i64 r3, .sl .no (x.changes.map encChg)]) (R := [.int .i64 0, .sl .full []]) q2 q3 (by simp; omega) (by simp [z0, c0]) (by simp [z1, c1])
    have hfin : A ++ [iN x.changes[j].key 999, iF x.changes[j].gone, iX x.changes[j].value] = Q ++ (iN x.changes.length 8 :: (x.changes.take (j + 1)).flatMap chgI) := by rw [he, ← hAA]; simp [chgI]
    rw [hfin] at a3
    simp -implicitDefEqProofs [s10, q4, q5, inc_i64 hlt (show x.changes.length ≤ _ by omega), -Int.natCast_add]
    exact ih2 (x.changes.length - (j + 1)) _ _ (by omega) ⟨j + 1, t3, rfl, by omega, by simp [s1], by simp [s2], ⟨e3, by simp, a3, q1⟩, by simp, m0, m1, d0, d1⟩
  · obtain rfl : j = x.changes.length := by omega
    rw [List.take_length] at hA
    simp -implicitDefEqProofs [s1, s10, n0, c0]
    have e : recI x = Q ++ (iN x.changes.length 8 :: x.changes.flatMap chgI) := by
      rw [hRI, ← hQQ, ← hPP, ← hHD, stepI, ra, chgsI]
    rw [e] at hL hI ⊢
    exact refPut_fin _ _ _ hL hI _ _ t es (by simp [s1]) (by simp [s2]) (by simp [s3]) hA n1 c0 c1
end Go.Proofs

/- The statement RecsPut. -/
namespace Go.Proofs
open Go Go.RowKit Go.Am

theorem refPut_ok (x : Recd) (hx : x.wf) (ha : x.args.length ≤ 100) (hc : x.changes.length ≤ 100) (hr : x.node.reads.length ≤ 100) (hw : x.node.writes.length ≤ 100) : PCall Try.prog 30 [.agg (encRecd x)] (.agg [.int .i64 x.kind, encW (recW x)]) := by
  by_cases k1 : x.kind = 1
  · exact refPut1_ok x k1 hx ha hc hr hw
  by_cases k2 : x.kind = 2
  · exact refPut2_ok x k2 hx ha hc hr hw
  · exact refPut3_ok x k1 k2 hx ha hc hr hw
theorem recW_lt {x : Recd} (hx : x.wf) (ha : x.args.length ≤ 100) (hc : x.changes.length ≤ 100) (hr : x.node.reads.length ≤ 100) (hw : x.node.writes.length ≤ 100) : ∀ w ∈ recW x, w < 18446744073709551616 := by
  have hI := it_rec hx ha hc hr hw
  exact writeAll_less fun i hi => ⟨(hI i hi).1, by rw [(hI i hi).2]; simp⟩
theorem recW_most {x : Recd} (h : recMay x = true) (hr : x.regs.length = 4) : (recW x).length + 1 ≤ 77 ∧ (¬ x.kind = 2 → (recW x).length + 1 ≤ 6) := by
  rcases may_cases h with ⟨k, a⟩ | ⟨k, a, b, c⟩ | k
  · have := argsW_len x.args
    rw [recW, recI, if_pos k, writeAll_cons, w_iN]
    simp only [List.length_append, List.length_cons, List.length_nil]
    omega
  · obtain ⟨r0, r1, r2, r3, ra⟩ := regs_four hr
    have e1 := spnsW_len x.node.reads
    have e2 := spnsW_len x.node.writes
    have e3 := chgsW_len x.changes
    refine ⟨?_, fun h => absurd k h⟩
    rw [recW, recI, if_neg (by omega), if_pos k, stepI, ra, writeAll_app, writeAll_app, writeAll_app, writeAll_app]
    simp only [List.length_append, e1, e2, e3]
    simp [writeAll, w_iN, w_iF, w_iX]
    omega
  · rw [recW, recI, if_neg (by omega), if_neg (by omega)]
    simp [writeAll, w_iN]
end Go.Proofs
