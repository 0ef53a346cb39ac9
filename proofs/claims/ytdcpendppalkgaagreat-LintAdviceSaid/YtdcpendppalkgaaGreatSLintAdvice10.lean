/- What the functions that the statement reaches do: their contracts; and what follows of it. -/
import Derived.Test.YtdcpendppalkgaaGreatSLintAdvice9
/- The array of a history's arcs. -/
namespace Go.Proofs
open Go Go.RowKit Go.Am

def arcBox (F : Nat → Nat → Nat → Bool) : List AV := rowN 50000 fun q => .bool (F (q / 500) (q / 5 % 100) (q % 5))
@[simp] theorem arcBox_len (F : Nat → Nat → Nat → Bool) : (arcBox F).length = 50000 := rowN_len _ _
def upd3 (F : Nat → Nat → Nat → Bool) (u v m : Nat) : Nat → Nat → Nat → Bool := fun a b c => if a = u ∧ b = v ∧ c = m then true else F a b c
theorem arcBox_at (F : Nat → Nat → Nat → Bool) {u v m : Nat} (hu : u < 100) (hv : v < 100) (hm : m < 5) : List.take 1 (List.drop (u * 500 + v * 5 + m) (arcBox F)) = [.bool (F u v m)] := by
  rw [arcBox, rowN_at _ (by omega), show (u * 500 + v * 5 + m) / 500 = u by omega, show (u * 500 + v * 5 + m) / 5 % 100 = v by omega, show (u * 500 + v * 5 + m) % 5 = m by omega]
theorem arcBox_put (F : Nat → Nat → Nat → Bool) {u v m : Nat} (hu : u < 100) (hv : v < 100) (hm : m < 5) : List.take (u * 500 + v * 5 + m) (arcBox F) ++ .bool true :: List.drop (u * 500 + v * 5 + m + 1) (arcBox F) = arcBox (upd3 F u v m) := by
  rw [arcBox, rowN_put _ (by omega)]
  refine rowN_congr fun q hq => ?_
  unfold upd3
  by_cases e : q = u * 500 + v * 5 + m
  · rw [if_pos e, if_pos ⟨by omega, by omega, by omega⟩]
  · rw [if_neg e, if_neg fun h => e (by omega)]
theorem arcBox_zero : List.replicate 50000 (AV.bool false) = arcBox fun _ _ _ => false := by
  unfold arcBox rowN
  rw [List.map_const', List.length_range]
/-- What is set, when so many rows and of the next so many nodes are done. -/
def okA (l : List Nod) (D : Nat → Nat → Bool) (a b : Nat) : Prop := (ndOf l b).saga ≠ (ndOf l a).saga ∧ D a b = true
def SetA (x : Ctlg) (l : List Nod) (D : Nat → Nat → Bool) (i1 i k u v m : Nat) : Prop :=
  (m = 1 ∧ v < i1 ∧ lastN l (ndOf l v).saga v = some u) ∨ ∃ a b, (a < i ∨ a = i ∧ b < k) ∧ b < l.length ∧ okA l D a b ∧
    ((m = 2 ∧ u = b ∧ v = a) ∨ (m = 3 ∧ v = a ∧ endU x l b (ndOf l a).cls l.length = some u) ∨ (m = 4 ∧ u = b ∧ fstU x l a (ndOf l b).cls l.length = some v))
theorem SetA.next_no {x : Ctlg} {l : List Nod} {D : Nat → Nat → Bool} {i1 i k : Nat} (h : ¬ okA l D i k) (u v m : Nat) : SetA x l D i1 i (k + 1) u v m ↔ SetA x l D i1 i k u v m := by
  constructor
  · rintro (q | ⟨a, b, hd, hb, ho, q⟩)
    · exact .inl q
    · refine .inr ⟨a, b, ?_, hb, ho, q⟩
      rcases hd with hd | ⟨rfl, hd⟩
      · exact .inl hd
      · by_cases e : b = k
        · subst e; exact absurd ho h
        · exact .inr ⟨rfl, by omega⟩
  · rintro (q | ⟨a, b, hd, hb, ho, q⟩)
    · exact .inl q
    · refine .inr ⟨a, b, ?_, hb, ho, q⟩
      rcases hd with hd | ⟨rfl, hd⟩
      · exact .inl hd
      · exact .inr ⟨rfl, by omega⟩
theorem SetA.next_ok {x : Ctlg} {l : List Nod} {D : Nat → Nat → Bool} {i1 i k e f : Nat} (h : okA l D i k) (hk : k < l.length) (he : endU x l k (ndOf l i).cls l.length = some e) (hf : fstU x l i (ndOf l k).cls l.length = some f) (u v m : Nat) : SetA x l D i1 i (k + 1) u v m ↔ SetA x l D i1 i k u v m ∨ ((m = 2 ∧ u = k ∧ v = i) ∨ (m = 3 ∧ v = i ∧ u = e) ∨ (m = 4 ∧ u = k ∧ v = f)) := by
  constructor
  · rintro (q | ⟨a, b, hd, hb, ho, q⟩)
    · exact .inl (.inl q)
    · by_cases hab : a = i ∧ b = k
      · obtain ⟨rfl, rfl⟩ := hab
        refine .inr ?_
        rcases q with q | ⟨q1, q2, q3⟩ | ⟨q1, q2, q3⟩
        · exact .inl q
        · rw [he] at q3; cases q3; exact .inr (.inl ⟨q1, q2, rfl⟩)
        · rw [hf] at q3; cases q3; exact .inr (.inr ⟨q1, q2, rfl⟩)
      · refine .inl (.inr ⟨a, b, ?_, hb, ho, q⟩)
        rcases hd with hd | ⟨rfl, hd⟩
        · exact .inl hd
        · exact .inr ⟨rfl, by have : b ≠ k := fun e => hab ⟨rfl, e⟩; omega⟩
  · rintro ((q | ⟨a, b, hd, hb, ho, q⟩) | q)
    · exact .inl q
    · refine .inr ⟨a, b, ?_, hb, ho, q⟩
      rcases hd with hd | ⟨rfl, hd⟩
      · exact .inl hd
      · exact .inr ⟨rfl, by omega⟩
    · refine .inr ⟨i, k, .inr ⟨rfl, by omega⟩, hk, h, ?_⟩
      rcases q with q | ⟨q1, q2, q3⟩ | ⟨q1, q2, q3⟩
      · exact .inl q
      · exact .inr (.inl ⟨q1, q2, by rw [he, q3]⟩)
      · exact .inr (.inr ⟨q1, q2, by rw [hf, q3]⟩)
theorem SetA.row {x : Ctlg} {l : List Nod} {D : Nat → Nat → Bool} {i1 i : Nat} (u v m : Nat) : SetA x l D i1 i l.length u v m ↔ SetA x l D i1 (i + 1) 0 u v m := by
  constructor
  · rintro (q | ⟨a, b, hd, hb, ho, q⟩)
    · exact .inl q
    · exact .inr ⟨a, b, .inl (by omega), hb, ho, q⟩
  · rintro (q | ⟨a, b, hd, hb, ho, q⟩)
    · exact .inl q
    · refine .inr ⟨a, b, ?_, hb, ho, q⟩
      rcases hd with hd | ⟨rfl, hd⟩
      · by_cases e : a = i
        · exact .inr ⟨e, hb⟩
        · exact .inl (by omega)
      · omega
theorem SetA.start {x : Ctlg} {l : List Nod} {D : Nat → Nat → Bool} {i : Nat} (u v m : Nat) : SetA x l D (i + 1) i 0 u v m ↔ SetA x l D i i 0 u v m ∨ (m = 1 ∧ v = i ∧ lastN l (ndOf l i).saga i = some u) := by
  constructor
  · rintro (⟨q1, q2, q3⟩ | q)
    · by_cases e : v = i
      · subst e; exact .inr ⟨q1, rfl, q3⟩
      · exact .inl (.inl ⟨q1, by omega, q3⟩)
    · exact .inl (.inr q)
  · rintro ((⟨q1, q2, q3⟩ | q) | ⟨q1, rfl, q3⟩)
    · exact .inl ⟨q1, by omega, q3⟩
    · exact .inr q
    · exact .inl ⟨q1, by omega, q3⟩
theorem SetA.edge {x : Ctlg} {l : List Nod} {D : Nat → Nat → Bool} {u v : Nat} (hu : u < l.length) (hv : v < l.length) : (∃ m, 1 ≤ m ∧ m < 5 ∧ SetA x l D l.length l.length 0 u v m) ↔ edgB x l D u v = true := by
  simp only [edgB, Bool.and_eq_true, Bool.or_eq_true, decide_eq_true_eq]
  constructor
  · rintro ⟨m, h1, h5, (⟨rfl, q2, q3⟩ | ⟨a, b, hd, hb, ho, q⟩)⟩
    · exact ⟨⟨hu, hv⟩, .inl (.inl (.inl (by simp [arcB, q3])))⟩
    · have ha : a < l.length := by omega
      refine ⟨⟨hu, hv⟩, ?_⟩
      rcases q with ⟨rfl, rfl, rfl⟩ | ⟨rfl, rfl, q⟩ | ⟨rfl, rfl, q⟩
      · exact .inl (.inl (.inr (by simp only [arcB, Bool.and_eq_true, decide_eq_true_eq]; exact ho)))
      · refine .inl (.inr ?_)
        simp only [arcB, List.any_eq_true, List.mem_range, Bool.and_eq_true, decide_eq_true_eq]
        exact ⟨b, hb, ho, q⟩
      · refine .inr ?_
        simp only [arcB, List.any_eq_true, List.mem_range, Bool.and_eq_true, decide_eq_true_eq]
        exact ⟨a, ha, ⟨fun e => ho.1 e.symm, ho.2⟩, q⟩
  · rintro ⟨_, ((q | q) | q) | q⟩
    · refine ⟨1, by decide, by decide, .inl ⟨rfl, hv, ?_⟩⟩
      simpa [arcB] using q
    · simp only [arcB, Bool.and_eq_true, decide_eq_true_eq] at q
      exact ⟨2, by decide, by decide, .inr ⟨v, u, .inl hv, hu, q, .inl ⟨rfl, rfl, rfl⟩⟩⟩
    · simp only [arcB, List.any_eq_true, List.mem_range, Bool.and_eq_true, decide_eq_true_eq] at q
      obtain ⟨k, hk, ho, q⟩ := q
      exact ⟨3, by decide, by decide, .inr ⟨v, k, .inl hv, hk, ho, .inr (.inl ⟨rfl, rfl, q⟩)⟩⟩
    · simp only [arcB, List.any_eq_true, List.mem_range, Bool.and_eq_true, decide_eq_true_eq] at q
      obtain ⟨i, hi, ho, q⟩ := q
      exact ⟨4, by decide, by decide, .inr ⟨i, u, .inl hi, hu, ⟨fun e => ho.1 e.symm, ho.2⟩, .inr (.inr ⟨rfl, rfl, q⟩)⟩⟩
theorem inP_inU {x : Ctlg} {l : List Nod} {d : Int} {i k : Nat} (hi : i < l.length) (hk : k < l.length) : inP x l d i k hi hk = inU x l i k d := by
  simp [inP, inU, ndOf_of hi, ndOf_of hk]
end Go.Proofs

/- The arcs of a history: the document's walk. -/
namespace Go.Proofs
open Go Go.RowKit Go.Am

/-- The state while the array is filled: the catalogue's box, the relation's boxes, the array's. -/
structure ArcH (h0 : H) (x : Ctlg) (n px p b : Nat) (c : Nat → Nat) (D : Nat → Nat → Bool) (F : Nat → Nat → Nat → Bool) (h : H) : Prop where
  lx : px < h.bn
  hx : h.bx px = some (.sl .no (x.classes.map encCls) :: x.breaks.map (AV.int .i64))
  R : Rel h b c n D
  lp : p < h.bn
  fp : h.bx p = some (arcBox F)
  np : h0.bn ≤ p
  pb : p ≠ b
  pc : ∀ i, i < n → p ≠ c i
  pp : px ≠ p
  hf : HF h0 h (fun _ => False) (fun _ => False)
theorem ArcH.set {h0 : H} {x : Ctlg} {n px p b : Nat} {c : Nat → Nat} {D : Nat → Nat → Bool} {F : Nat → Nat → Nat → Bool} {h : H} (A : ArcH h0 x n px p b c D F h) (G : Nat → Nat → Nat → Bool) : ArcH h0 x n px p b c D G (h.set p (arcBox G)) :=
  ⟨by simpa using A.lx, by simp only [set_bx]; rw [if_neg A.pp]; exact A.hx, A.R.keep (HF.set (B := (· = p)) (fun _ => False) rfl) (fun e => A.pb e.symm) (fun i hi e => A.pc i hi e.symm), by simpa using A.lp, by simp, A.np, A.pb, A.pc, A.pp,
   A.hf.trans' (HF.set (B := (· = p)) _ rfl) (fun y hy e => by have e : y = p := e; have := A.np; omega) (fun _ _ h => h)⟩
/-- The slots while the array is filled. -/
structure ArcS (l : List Nod) (px p b i : Nat) (S : Slots) : Prop where
  t1 : S 1 = .sl .no (l.map encNod)
  t2 : S 2 = .ptr px 0
  t5 : S 5 = .int .i64 l.length
  t6 : S 6 = .msl b 1 0 l.length
  t7 : S 7 = .ptr p 0
  t8 : S 8 = .int .i64 i
theorem ArcS.to {l : List Nod} {px p b i : Nat} {S S' : Slots} (I : ArcS l px p b i S) (h : ∀ y, y < 9 → S' y = S y) : ArcS l px p b i S' :=
  ⟨(h 1 (by decide)).trans I.t1, (h 2 (by decide)).trans I.t2, (h 5 (by decide)).trans I.t5, (h 6 (by decide)).trans I.t6, (h 7 (by decide)).trans I.t7, (h 8 (by decide)).trans I.t8⟩
theorem lastV_some (e : Nat) : lastV (some e) = (e : Int) := rfl

section
variable {h0 : H} {x : Ctlg} {l : List Nod} {px p b : Nat} {c : Nat → Nat} {D : Nat → Nat → Bool} {F : Nat → Nat → Nat → Bool} {S : Slots} {h : H} {k : List It} {Q : Res → Slots → H → Prop} {i : Nat}

/-- The last node of the same saga ahead. -/
theorem arcs_last (hl : l.length ≤ 16) (hi : i < l.length) (I : ArcS l px p b i S) (t9 : S 9 = .int .i64 (-1)) (t10 : S 10 = .int .i64 0)
    (hk : ∀ S', ArcS l px p b i S' → S' 9 = .int .i64 (lastV (lastN l (ndOf l i).saga i)) → Run Tryz.prog false k Q S' h) : Run Tryz.prog false (.c (.loop c82_l13) :: .blk 2 :: k) Q S h := by
  refine run_loop (fun m S h' => ∃ j : Nat, m = i - j ∧ j ≤ i ∧ ArcS l px p b i S ∧ S 9 = .int .i64 (lastV (lastN l (ndOf l i).saga j)) ∧ S 10 = .int .i64 j ∧ h' = h) ?_ i ?_
  rotate_left
  · exact ⟨0, rfl, Nat.zero_le _, I, t9, t10, rfl⟩
  clear I t9 t10
  rintro m S h' ⟨j, hm, hj, I, t9, t10, rfl⟩ ih
  by_cases hlj : j < i
  · have hjl : j < l.length := by omega
    have ii := idxOf_nat (k := .i64) hi
    have ij := idxOf_nat (k := .i64) hjl
    have na : ndOf l i = l[i] := ndOf_of hi
    have hln : lastN l (ndOf l i).saga (j + 1) = if l[j].saga = l[i].saga then some j else lastN l (ndOf l i).saga j := by
      rw [lastN, List.getElem?_eq_getElem hjl, na]
      simp
    simp -implicitDefEqProofs [I.t8, t10, hlj]
    refine run_dregL c82_d10 rfl ?_
    by_cases hs : l[j].saga = l[i].saga
    · rw [if_pos hs] at hln
      simp -implicitDefEqProofs [I.t1, I.t8, t10, hi, hjl, encNod, hs, inc_i64 hlj (by omega), -Int.natCast_add]
      refine ih (i - (j + 1)) _ _ (by omega) ⟨j + 1, rfl, by omega, I.to fun y hy => ?_, by simp [hln, lastV], by simp, rfl⟩
      simp only [su]; repeat (rw [if_neg (by omega)])
    · rw [if_neg hs] at hln
      simp -implicitDefEqProofs [I.t1, I.t8, t10, hi, hjl, encNod, hs, inc_i64 hlj (by omega), -Int.natCast_add]
      refine ih (i - (j + 1)) _ _ (by omega) ⟨j + 1, rfl, by omega, I.to fun y hy => ?_, by simp [hln, t9], by simp, rfl⟩
      simp only [su]; repeat (rw [if_neg (by omega)])
  · obtain rfl : j = i := by omega
    simp -implicitDefEqProofs [I.t8, t10]
    refine hk _ (I.to fun y hy => ?_) (by simp [t9])
    simp only [su]; repeat (rw [if_neg (by omega)])

set_option maxHeartbeats 2000000 in
/-- The unit's last node, and the other unit's first one. -/
theorem arcs_ends (hx : x.wf) (hw : ∀ n ∈ l, n.wf) (hm : histMay x l = true) (hl : l.length ≤ 16) (hi : i < l.length) {q : Nat} (hq : q < l.length) (lx : px < h.bn) (hbx : h.bx px = some (.sl .no (x.classes.map encCls) :: x.breaks.map (AV.int .i64)))
    (I : ArcS l px p b i S) (t11 : S 11 = .int .i64 q) (t12 : S 12 = .int .i64 (-1)) (t13 : S 13 = .int .i64 (-1)) (t14 : S 14 = .int .i64 0)
    (hk : ∀ S', ArcS l px p b i S' → S' 11 = .int .i64 q → S' 12 = .int .i64 (lastV (fstU x l i (ndOf l q).cls l.length)) → S' 13 = .int .i64 (lastV (endU x l q (ndOf l i).cls l.length)) → Run Tryz.prog false k Q S' h) : Run Tryz.prog false (.c (.loop c82_l28) :: .blk 6 :: k) Q S h := by
  have hbl := hx.2.1
  have htk := x.take16 hbl
  have na : ndOf l i = l[i] := ndOf_of hi
  have nq : ndOf l q = l[q] := ndOf_of hq
  have wi := (hw _ (List.getElem_mem hi)).2.1
  have wq := (hw _ (List.getElem_mem hq)).2.1
  refine run_loop (fun r S h' => ∃ m : Nat, r = l.length - m ∧ m ≤ l.length ∧ ArcS l px p b i S ∧ S 11 = .int .i64 q ∧ S 12 = .int .i64 (lastV (fstU x l i (ndOf l q).cls m)) ∧ S 13 = .int .i64 (lastV (endU x l q (ndOf l i).cls m)) ∧ S 14 = .int .i64 m ∧ h' = h) ?_ l.length ?_
  rotate_left
  · exact ⟨0, rfl, Nat.zero_le _, I, t11, t12, t13, t14, rfl⟩
  clear I t11 t12 t13 t14
  rintro r S h' ⟨m, hr, hm', I, t11, t12, t13, t14, rfl⟩ ih
  by_cases hlm : m < l.length
  · have ii := idxOf_nat (k := .i64) hi
    have iq := idxOf_nat (k := .i64) hq
    have c1 := refIn_ok x hx l (by omega) hw (i := q) (k := m) (d := l[i].cls) wi hq hlm hm
    rw [inP_inU hq hlm, ← na] at c1
    have c2 := refIn_ok x hx l (by omega) hw (i := i) (k := m) (d := l[q].cls) wq hi hlm hm
    rw [inP_inU hi hlm, ← nq] at c2
    have he : endU x l q (ndOf l i).cls (m + 1) = if inU x l q m (ndOf l i).cls = true then some m else endU x l q (ndOf l i).cls m := rfl
    have hf : fstU x l i (ndOf l q).cls (m + 1) = if (fstU x l i (ndOf l q).cls m).isNone && inU x l i m (ndOf l q).cls then some m else fstU x l i (ndOf l q).cls m := rfl
    rw [na] at c1 he
    rw [nq] at c2 hf
    rw [nq] at t12
    rw [na] at t13
    have hfin : ∀ (S' : Slots) (e f : Option Nat), (∀ y, y < 12 → S' y = S y) → S' 12 = .int .i64 (lastV f) → S' 13 = .int .i64 (lastV e) → S' 14 = .int .i64 (m + 1 : Nat) → e = endU x l q l[i].cls (m + 1) → f = fstU x l i l[q].cls (m + 1) → ∃ m' : Nat, l.length - (m + 1) = l.length - m' ∧ m' ≤ l.length ∧ ArcS l px p b i S' ∧ S' 11 = .int .i64 q ∧ S' 12 = .int .i64 (lastV (fstU x l i (ndOf l q).cls m')) ∧ S' 13 = .int .i64 (lastV (endU x l q (ndOf l i).cls m')) ∧ S' 14 = .int .i64 m' ∧ h' = h' := fun S' e f un q12 q13 q14 ee ef =>
      ⟨m + 1, rfl, by omega, I.to fun y hy => un y (by omega), (un 11 (by decide)).trans t11, by rw [q12, ef, nq], by rw [q13, ee, na], q14, rfl⟩
    simp -implicitDefEqProofs [I.t5, t14, hlm]
    refine run_dreg c82_d23 ?_
    simp -implicitDefEqProofs [I.t1, I.t2, I.t8, t11, t14, hi, hbx, lx, hbl, htk, encNod]
    refine lcallQ_p c1 (by simp [encCtlg]) ?_
    cases u1 : inU x l q m l[i].cls
    · rw [u1, if_neg (by decide)] at he
      simp -implicitDefEqProofs [I.t2, hbx, lx, hbl, htk]
      refine run_dregL c82_d25 rfl ?_
      cases hfn : fstU x l i l[q].cls m with
      | some f0 =>
        rw [hfn] at hf t12
        simp only [Option.isNone_some, Bool.false_and, Bool.false_eq_true, if_false] at hf
        rw [lastV] at t12
        simp -implicitDefEqProofs [t12, t14, show ¬ (f0 : Int) < 0 by omega, inc_i64 hlm (by omega), -Int.natCast_add]
        refine ih (l.length - (m + 1)) _ _ (by omega) (hfin _ _ (some f0) (fun y hy => ?_) (by simp [t12, lastV]) (by simp [t13]) (by simp) he.symm hf.symm)
        simp only [su]; repeat (rw [if_neg (by omega)])
      | none =>
        rw [hfn] at hf t12
        rw [lastV] at t12
        simp only [Option.isNone_none, Bool.true_and] at hf
        simp -implicitDefEqProofs [I.t1, I.t2, I.t8, t11, t12, t14, hq, hbx, lx, hbl, htk, encNod]
        refine callC_p c2 (by simp [encCtlg]) ?_
        cases u2 : inU x l i m l[q].cls
        · rw [u2, if_neg (by decide)] at hf
          simp -implicitDefEqProofs [t14, inc_i64 hlm (by omega), -Int.natCast_add]
          refine ih (l.length - (m + 1)) _ _ (by omega) (hfin _ _ none (fun y hy => ?_) (by simp [t12, lastV]) (by simp [t13]) (by simp) he.symm hf.symm)
          simp only [su]; repeat (rw [if_neg (by omega)])
        · rw [u2, if_pos rfl] at hf
          simp -implicitDefEqProofs [t14, inc_i64 hlm (by omega), -Int.natCast_add]
          refine ih (l.length - (m + 1)) _ _ (by omega) (hfin _ _ (some m) (fun y hy => ?_) (by simp [lastV]) (by simp [t13]) (by simp) he.symm hf.symm)
          simp only [su]; repeat (rw [if_neg (by omega)])
    · rw [u1, if_pos rfl] at he
      simp -implicitDefEqProofs [I.t2, t14, hbx, lx, hbl, htk]
      refine run_dregL c82_d25 rfl ?_
      cases hfn : fstU x l i l[q].cls m with
      | some f0 =>
        rw [hfn] at hf t12
        simp only [Option.isNone_some, Bool.false_and, Bool.false_eq_true, if_false] at hf
        rw [lastV] at t12
        simp -implicitDefEqProofs [t12, t14, show ¬ (f0 : Int) < 0 by omega, inc_i64 hlm (by omega), -Int.natCast_add]
        refine ih (l.length - (m + 1)) _ _ (by omega) (hfin _ (some m) (some f0) (fun y hy => ?_) (by simp [t12, lastV]) (by simp [lastV]) (by simp) he.symm hf.symm)
        simp only [su]; repeat (rw [if_neg (by omega)])
      | none =>
        rw [hfn] at hf t12
        rw [lastV] at t12
        simp only [Option.isNone_none, Bool.true_and] at hf
        simp -implicitDefEqProofs [I.t1, I.t2, I.t8, t11, t12, t14, hq, hbx, lx, hbl, htk, encNod]
        refine callC_p c2 (by simp [encCtlg]) ?_
        cases u2 : inU x l i m l[q].cls
        · rw [u2, if_neg (by decide)] at hf
          simp -implicitDefEqProofs [t14, inc_i64 hlm (by omega), -Int.natCast_add]
          refine ih (l.length - (m + 1)) _ _ (by omega) (hfin _ (some m) none (fun y hy => ?_) (by simp [t12, lastV]) (by simp [lastV]) (by simp) he.symm hf.symm)
          simp only [su]; repeat (rw [if_neg (by omega)])
        · rw [u2, if_pos rfl] at hf
          simp -implicitDefEqProofs [t14, inc_i64 hlm (by omega), -Int.natCast_add]
          refine ih (l.length - (m + 1)) _ _ (by omega) (hfin _ (some m) (some m) (fun y hy => ?_) (by simp [lastV]) (by simp [lastV]) (by simp) he.symm hf.symm)
          simp only [su]; repeat (rw [if_neg (by omega)])
  · obtain rfl : m = l.length := by omega
    simp -implicitDefEqProofs [I.t5, t14]
    refine hk _ (I.to fun y hy => ?_) (by simp [t11]) (by simp [t12]) (by simp [t13])
    simp only [su]; repeat (rw [if_neg (by omega)])
end
end Go.Proofs

/- The arcs of a history: the whole walk. -/
namespace Go.Proofs
open Go Go.RowKit Go.Am

theorem upd3_iff {F : Nat → Nat → Nat → Bool} {u v m a b c : Nat} : upd3 F u v m a b c = true ↔ F a b c = true ∨ (c = m ∧ a = u ∧ b = v) := by
  unfold upd3
  split
  · rename_i h
    obtain ⟨rfl, rfl, rfl⟩ := h
    simp
  · rename_i h
    constructor
    · exact fun q => .inl q
    · rintro (q | ⟨rfl, rfl, rfl⟩)
      · exact q
      · exact absurd ⟨rfl, rfl, rfl⟩ h
theorem arc_b1 {e i : Nat} (he : e < 16) (hi : i < 16) : e * 500 + i * 5 ≤ 49996 := by omega
theorem arc_b3 (s t a b N M : Nat) (h1 : s ≤ a) (h2 : t ≤ b) (h3 : b + a ≤ N) (h4 : a + 3 ≤ M) : t ≤ min (s + 3) M + (1 + (N - s)) := by omega
theorem arc_b2 {e i q f : Nat} (he : e < 16) (hi : i < 16) (hq : q < 16) (hf : f < 16) : q * 500 + f * 5 + 4 + 1 ≤ min (e * 500 + i * 5 + 3) 50000 + (1 + (49996 - (e * 500 + i * 5))) :=
  arc_b3 _ _ 7575 7580 49996 50000 (by omega) (by omega) (Nat.le_of_ble_eq_true rfl) (Nat.le_of_ble_eq_true rfl)
section
variable {h0 : H} {x : Ctlg} {l : List Nod} {px p b : Nat} {c : Nat → Nat} {D : Nat → Nat → Bool} {F : Nat → Nat → Nat → Bool} {S : Slots} {h : H} {k : List It} {Q : Res → Slots → H → Prop} {i : Nat}

set_option maxHeartbeats 2000000 in
theorem arcs_row (hx : x.wf) (hw : ∀ n ∈ l, n.wf) (hm : histMay x l = true) (hl : l.length ≤ 16) (hi : i < l.length) (I : ArcS l px p b i S) (t11 : S 11 = .int .i64 0) (A : ArcH h0 x l.length px p b c D F h) (hF : ∀ u v m, F u v m = true ↔ SetA x l D (i + 1) i 0 u v m)
    (hk : ∀ S' h' F', ArcS l px p b i S' → ArcH h0 x l.length px p b c D F' h' → (∀ u v m, F' u v m = true ↔ SetA x l D (i + 1) (i + 1) 0 u v m) → Run Tryz.prog false k Q S' h') : Run Tryz.prog false (.c (.loop c82_l32) :: .blk 4 :: k) Q S h := by
  refine run_loop (fun r S h' => ∃ (q : Nat) (F' : Nat → Nat → Nat → Bool), r = l.length - q ∧ q ≤ l.length ∧ ArcS l px p b i S ∧ S 11 = .int .i64 q ∧ ArcH h0 x l.length px p b c D F' h' ∧ (∀ u v m, F' u v m = true ↔ SetA x l D (i + 1) i q u v m)) ?_ l.length ?_
  rotate_left
  · exact ⟨0, F, rfl, Nat.zero_le _, I, t11, A, hF⟩
  clear I t11 A hF
  rintro r S h ⟨q, F, hr, hq, I, t11, A, hF⟩ ih
  by_cases hlq : q < l.length
  · have ii := idxOf_nat (k := .i64) hi
    have iq := idxOf_nat (k := .i64) hlq
    have na : ndOf l i = l[i] := ndOf_of hi
    have nq : ndOf l q = l[q] := ndOf_of hlq
    have R := A.R
    have rb := R.bx
    have rl := R.bl
    have ri := R.cx i hi
    have li := R.cl i hi
    have ab := rowN_at (n := l.length) (fun i => AV.msl (c i) 1 0 l.length) hi
    have a1 := rowN_at (n := l.length) (fun k => AV.bool (D i k)) hlq
    have hge1 : i + 1 ≤ l.length := hi
    have hge2 : q + 1 ≤ l.length := hlq
    have hno : ¬ okA l D i q → ∀ (S' : Slots), (∀ y, y < 9 → S' y = S y) → S' 11 = .int .i64 (q + 1 : Nat) → ∃ (q' : Nat) (F' : Nat → Nat → Nat → Bool), l.length - (q + 1) = l.length - q' ∧ q' ≤ l.length ∧ ArcS l px p b i S' ∧ S' 11 = .int .i64 q' ∧ ArcH h0 x l.length px p b c D F' h ∧ (∀ u v m, F' u v m = true ↔ SetA x l D (i + 1) i q' u v m) := fun ho S' un q11 =>
      ⟨q + 1, F, rfl, by omega, I.to un, q11, A, fun u v m => by rw [hF, SetA.next_no ho]⟩
    simp -implicitDefEqProofs [I.t5, t11, hlq]
    refine run_dregL c82_d18 rfl ?_
    by_cases hs : l[q].saga = l[i].saga
    · have ho : ¬ okA l D i q := fun h => h.1 (by rw [nq, na, hs])
      simp -implicitDefEqProofs [I.t1, I.t8, t11, hi, hlq, encNod, hs, inc_i64 hlq (by omega), -Int.natCast_add]
      refine ih (l.length - (q + 1)) _ _ (by omega) (hno ho _ (fun y hy => ?_) (by simp))
      simp only [su]; repeat (rw [if_neg (by omega)])
    cases hd : D i q
    · have ho : ¬ okA l D i q := fun h => by rw [h.2] at hd; cases hd
      rw [hd] at a1
      simp -implicitDefEqProofs [I.t1, I.t6, I.t8, t11, hi, hlq, encNod, hs, rb, rl, ri, li, ab, a1, hge1, hge2, inc_i64 hlq (by omega), -Int.natCast_add]
      refine ih (l.length - (q + 1)) _ _ (by omega) (hno ho _ (fun y hy => ?_) (by simp))
      simp only [su]; repeat (rw [if_neg (by omega)])
    · have ho : okA l D i q := ⟨by rw [nq, na]; exact hs, hd⟩
      rw [hd] at a1
      have lp := A.lp
      have fp := A.fp
      have hi1 : (i : Int) < 100 := by omega
      have hq1 : (q : Int) < 100 := by omega
      have jq := idxOf_nat (k := .i64) (show q < 100 by omega)
      have ji := idxOf_nat (k := .i64) (show i < 100 by omega)
      simp -implicitDefEqProofs [I.t1, I.t6, I.t7, I.t8, t11, hi, hlq, encNod, hs, rb, rl, ri, li, ab, a1, hge1, hge2, lp, fp, hi1, hq1]
      refine ⟨by omega, ?_⟩
      rw [arcBox_put F (show q < 100 by omega) (show i < 100 by omega) (show 2 < 5 by decide)]
      have A2 := A.set (upd3 F q i 2)
      obtain ⟨e, he, _, he3, _⟩ := endU_max (x := x) (h := l) (k := q) (d := (ndOf l i).cls) l.length q hlq (inU_self _ _ _ _)
      obtain ⟨f, hf, hf2, _⟩ := fstU_min (x := x) (h := l) (k := i) (d := (ndOf l q).cls) l.length i hi (inU_self _ _ _ _)
      refine arcs_ends (i := i) (q := q) hx hw hm hl hi hlq A2.lx A2.hx (I.to fun y hy => ?_) (by simp [t11]) (by simp) (by simp) (by simp) fun S' I' t11' t12 t13 => ?_
      · simp only [su]; repeat (rw [if_neg (by omega)])
      rw [he, lastV_some] at t13
      rw [hf, lastV_some] at t12
      have je := idxOf_nat (k := .i64) (show e < 100 by omega)
      have jf := idxOf_nat (k := .i64) (show f < 100 by omega)
      have lp2 := A2.lp
      have fp2 := A2.fp
      generalize (h.set p (arcBox (upd3 F q i 2)) : H) = h2 at A2 lp2 fp2 ⊢
      simp -implicitDefEqProofs [I'.t7, I'.t8, t11', t12, t13, lp2, fp2, hi1, hq1, show (e : Int) < 100 by omega, show (f : Int) < 100 by omega, inc_i64 hlq (by omega), -Int.natCast_add]
      refine ⟨arc_b1 (by omega) (by omega), arc_b2 (by omega) (by omega) (by omega) (by omega), ?_⟩
      rw [arcBox_put (upd3 F q i 2) (show e < 100 by omega) (show i < 100 by omega) (show 3 < 5 by decide), arcBox_put (upd3 (upd3 F q i 2) e i 3) (show q < 100 by omega) (show f < 100 by omega) (show 4 < 5 by decide)]
      have A3 := A2.set (upd3 (upd3 F q i 2) e i 3)
      have A4 := A3.set (upd3 (upd3 (upd3 F q i 2) e i 3) q f 4)
      refine ih (l.length - (q + 1)) _ _ (by omega) ⟨q + 1, _, rfl, by omega, I'.to fun y hy => ?_, by simp, A4, fun u v m => ?_⟩
      · simp only [su]; repeat (rw [if_neg (by omega)])
      · rw [upd3_iff, upd3_iff, upd3_iff, hF, SetA.next_ok ho hlq he hf]
        constructor
        · rintro (((g | g) | g) | g)
          · exact .inl g
          · exact .inr (.inl g)
          · exact .inr (.inr (.inl ⟨g.1, g.2.2, g.2.1⟩))
          · exact .inr (.inr (.inr g))
        · rintro (g | g | g | g)
          · exact .inl (.inl (.inl g))
          · exact .inl (.inl (.inr g))
          · exact .inl (.inr ⟨g.1, g.2.2, g.2.1⟩)
          · exact .inr g
  · obtain rfl : q = l.length := by omega
    simp -implicitDefEqProofs [I.t5, t11]
    refine hk _ _ F (I.to fun y hy => ?_) A (fun u v m => by rw [hF, SetA.row])
    simp only [su]; repeat (rw [if_neg (by omega)])
end
end Go.Proofs

/- The arcs of a history: the document's list. -/
namespace Go.Proofs
open Go Go.RowKit Go.Am

def encA3 (a : Nat × Nat × Nat) : List AV := [.int .i64 a.1, .int .i64 a.2.1, .int .i64 a.2.2]
def TNv (h : H) (t : Tok) : Prop := ∀ i, i < h.tn → ¬ TOwn t i
theorem TNv.next {h h1 : H} {t t' : Tok} {B T : Nat → Prop} (a : TNv h t) (e : HF h h1 B T) (n : TNext h1 t t') : TNv h t' := fun i hi ho => by
  rcases n with rfl | ⟨j, rfl, hj⟩
  · exact a i hi ho
  · cases ho
    have := e.tn
    omega
/-- Ahead of a place, in the list's order. -/
def Bef (n u v w : Nat) (a b m : Nat) : Prop := 1 ≤ m ∧ m < 5 ∧ b < n ∧ (a < u ∨ a = u ∧ (b < v ∨ b = v ∧ m < w))

set_option maxHeartbeats 4000000 in
theorem arcs_call (x : Ctlg) (l : List Nod) (hx : x.wf) (hw : ∀ n ∈ l, n.wf) (hm : histMay x l = true) (hl : l.length ≤ 16) (hs : ∀ a ∈ l, a.small) (h0 : H) :
    CallP Tryz.prog 82 [.agg (encCtlg x), .sl .no (l.map encNod)] h0 fun r h1 => ∃ (t : Tok) (L : List (Nat × Nat × Nat)), r = .sl t (L.map encA3) ∧ L.length ≤ 5000 ∧ (∀ a b m, (a, b, m) ∈ L ↔ SetA x l (fw l.length (dep0 l)) l.length l.length 0 a b m ∧ 1 ≤ m ∧ m < 5 ∧ a < l.length ∧ b < l.length) ∧ HF h0 h1 (fun _ => False) (fun _ => False) := by
  refine CallP.run hb82 arcs_fn (by simp) ?_
  have hbl := hx.2.1
  have htk := x.take16 hbl
  simp -implicitDefEqProofs [encCtlg]
  refine callQ_c (of15_call l (by omega) hs _) (by simp) fun r h1 ⟨b, c, _, hr, hb, hc, R, hf⟩ => ?_
  subst hr
  generalize fw l.length (dep0 l) = D at *
  have hf1 : HF h0 h1 (fun _ => False) (fun _ => False) := (HF.alloc _ _ _ _).trans hf
  have hbx : h1.bx h0.bn = some (.sl .no (x.classes.map encCls) :: x.breaks.map (AV.int .i64)) := by rw [hf.bx h0.bn (by simp) fun h => h]; simp
  have hln : h0.bn < h1.bn := Nat.lt_of_lt_of_le (by simp) hf.bn
  simp -implicitDefEqProofs [-List.reduceReplicate, arcBox_zero]
  refine run_loop (fun q S h => ∃ (i : Nat) (F : Nat → Nat → Nat → Bool), q = l.length - i ∧ i ≤ l.length ∧ ArcS l h0.bn h1.bn b i S ∧ ArcH h0 x l.length h0.bn h1.bn b c D F h ∧ (∀ u v m, F u v m = true ↔ SetA x l D i i 0 u v m)) ?_ l.length ?_
  rotate_left
  · refine ⟨0, fun _ _ _ => false, rfl, Nat.zero_le _, ⟨by simp, by simp, by simp, by simp, by simp, by simp⟩, ⟨by simp; omega, by simp [show ¬ h0.bn = h1.bn by omega, hbx], R.keep (HF.alloc _ _ (fun _ => False) (fun _ => False)) (fun h => h) (fun _ _ h => h), by simp, by simp, hf1.bn, fun e => ?_, fun i hi e => ?_, by omega, hf1.trans (HF.alloc _ _ _ _)⟩, fun u v m => ?_⟩
    · have := R.bl; omega
    · have := R.cl i hi; omega
    · constructor
      · intro h; cases h
      · rintro (⟨_, h, _⟩ | ⟨a, b, h | ⟨_, h⟩, _⟩)
        · omega
        · omega
        · omega
  clear R hbx hf hf1 hln
  rintro q S h ⟨i, F, hq, hi, I, A, hF⟩ ih
  by_cases hlt : i < l.length
  · simp -implicitDefEqProofs [I.t5, I.t8, hlt]
    refine arcs_last hl hlt (I.to fun y hy => ?_) (by simp) (by simp) fun S' I' t9 => ?_
    · simp only [su]; repeat (rw [if_neg (by omega)])
    have hrow : ∀ (S2 : Slots) (h2 : H) (F2 : Nat → Nat → Nat → Bool), ArcS l h0.bn h1.bn b i S2 → S2 11 = .int .i64 0 → ArcH h0 x l.length h0.bn h1.bn b c D F2 h2 → (∀ u v m, F2 u v m = true ↔ SetA x l D (i + 1) i 0 u v m) → Run Tryz.prog false (.c (.loop c82_l32) :: .blk 4 :: .blk 1 :: .c (.reg c82_r33) :: .lp c82_l34 :: .blk 0 :: .c (.seq (.reg c82_r35) (.seq (.seq (.reg c82_r36) (.blk 8 (.loop c82_l49))) (.seq (.reg c82_r50) .ret))) :: []) (retQ [.t 4] fun r h1 => ∃ (t : Tok) (L : List (Nat × Nat × Nat)), r = .sl t (L.map encA3) ∧ L.length ≤ 5000 ∧ (∀ a b m, (a, b, m) ∈ L ↔ SetA x l D l.length l.length 0 a b m ∧ 1 ≤ m ∧ m < 5 ∧ a < l.length ∧ b < l.length) ∧ HF h0 h1 (fun _ => False) (fun _ => False)) S2 h2 := fun S2 h2 F2 I2 t11 A2 hF2 => by
      refine arcs_row hx hw hm hl hlt I2 t11 A2 hF2 fun S3 h3 F3 I3 A3 hF3 => ?_
      have t8 := I3.t8
      simp -implicitDefEqProofs [t8, inc_i64 hlt (by omega), -Int.natCast_add]
      exact ih (l.length - (i + 1)) _ _ (by omega) ⟨i + 1, F3, rfl, by omega, ⟨by simp [I3.t1], by simp [I3.t2], by simp [I3.t5], by simp [I3.t6], by simp [I3.t7], by simp⟩, A3, hF3⟩
    cases hla : lastN l (ndOf l i).saga i with
    | none =>
      rw [hla, lastV] at t9
      simp -implicitDefEqProofs [t9]
      refine hrow _ _ F (I'.to fun y hy => ?_) (by simp) A (fun u v m => ?_)
      · simp only [su]; repeat (rw [if_neg (by omega)])
      · rw [hF, SetA.start, hla]
        constructor
        · exact fun h => .inl h
        · rintro (h | ⟨_, _, h⟩)
          · exact h
          · cases h
    | some j =>
      rw [hla, lastV] at t9
      obtain ⟨hj, _⟩ := lastN_saga l _ _ _ hla
      have jj := idxOf_nat (k := .i64) (show j < 100 by omega)
      have ji := idxOf_nat (k := .i64) (show i < 100 by omega)
      have lp := A.lp
      have fp := A.fp
      simp -implicitDefEqProofs [I'.t7, I'.t8, t9, lp, fp, show (j : Int) < 100 by omega, show (i : Int) < 100 by omega]
      refine ⟨by omega, ?_⟩
      rw [arcBox_put F (show j < 100 by omega) (show i < 100 by omega) (show 1 < 5 by decide)]
      refine hrow _ _ (upd3 F j i 1) (I'.to fun y hy => ?_) (by simp) (A.set _) (fun u v m => ?_)
      · simp only [su]; repeat (rw [if_neg (by omega)])
      · rw [upd3_iff, hF, SetA.start, hla]
        constructor
        · rintro (h | ⟨h1, h2, h3⟩)
          · exact .inl h
          · exact .inr ⟨h1, h3, by rw [h2]⟩
        · rintro (h | ⟨h1, h2, h3⟩)
          · exact .inl h
          · cases h3; exact .inr ⟨h1, rfl, h2⟩
  · obtain rfl : i = l.length := by omega
    clear ih
    simp -implicitDefEqProofs [I.t5, I.t8]
    have T7 := I.t7
    have T5 := I.t5
    have lp := A.lp
    have fp := A.fp
    have hf0 := A.hf
    clear I A
    generalize h1.bn = p at *
    refine run_loop (fun q S h => ∃ (u : Nat) (L : List (Nat × Nat × Nat)) (t : Tok), q = l.length - u ∧ u ≤ l.length ∧ S 5 = .int .i64 l.length ∧ S 7 = .ptr p 0 ∧ S 15 = .sl t (L.map encA3) ∧ S 16 = .int .i64 u ∧ p < h.bn ∧ h.bx p = some (arcBox F) ∧ L.length ≤ u * 64 ∧ (∀ a b m, (a, b, m) ∈ L ↔ F a b m = true ∧ Bef l.length u 0 1 a b m) ∧ HF h0 h (fun _ => False) (fun _ => False) ∧ TLive h t L.length ∧ TNv h0 t) ?_ l.length ?_
    rotate_left
    · refine ⟨0, [], .full, rfl, Nat.zero_le _, by simp [T5], by simp [T7], by simp, by simp, lp, fp, by simp, fun a b m => ?_, hf0, trivial, fun i _ h => by cases h⟩
      simp only [List.not_mem_nil, false_iff]
      rintro ⟨_, h1, _, _, h | ⟨h, h2 | ⟨h2, h3⟩⟩⟩ <;> omega
    clear T5 T7 lp fp hf0
    rintro q S h ⟨u, L, t, hq, hu, t5, t7, t15, t16, lp, fp, hL, mem, hf, live, new⟩ ih
    by_cases hlu : u < l.length
    · simp -implicitDefEqProofs [t5, t16, hlu]
      refine run_loop (fun q S h => ∃ (v : Nat) (L : List (Nat × Nat × Nat)) (t : Tok), q = l.length - v ∧ v ≤ l.length ∧ S 5 = .int .i64 l.length ∧ S 7 = .ptr p 0 ∧ S 15 = .sl t (L.map encA3) ∧ S 16 = .int .i64 u ∧ S 17 = .int .i64 v ∧ p < h.bn ∧ h.bx p = some (arcBox F) ∧ L.length ≤ u * 64 + v * 4 ∧ (∀ a b m, (a, b, m) ∈ L ↔ F a b m = true ∧ Bef l.length u v 1 a b m) ∧ HF h0 h (fun _ => False) (fun _ => False) ∧ TLive h t L.length ∧ TNv h0 t) ?_ l.length ?_
      rotate_left
      · exact ⟨0, L, t, rfl, Nat.zero_le _, by simp [t5], by simp [t7], by simp [t15], by simp [t16], by simp, lp, fp, by omega, mem, hf, live, new⟩
      clear t5 t7 t15 t16 lp fp hL mem hf live new
      rintro q S h ⟨v, L, t, hq, hv, t5, t7, t15, t16, t17, lp, fp, hL, mem, hf, live, new⟩ ih2
      by_cases hlv : v < l.length
      · simp -implicitDefEqProofs [t5, t17, hlv]
        refine run_loop (fun q S h => ∃ (w : Nat) (L : List (Nat × Nat × Nat)) (t : Tok), q = 5 - w ∧ 1 ≤ w ∧ w ≤ 5 ∧ S 5 = .int .i64 l.length ∧ S 7 = .ptr p 0 ∧ S 15 = .sl t (L.map encA3) ∧ S 16 = .int .i64 u ∧ S 17 = .int .i64 v ∧ S 18 = .int .i64 w ∧ p < h.bn ∧ h.bx p = some (arcBox F) ∧ L.length ≤ u * 64 + v * 4 + (w - 1) ∧ (∀ a b m, (a, b, m) ∈ L ↔ F a b m = true ∧ Bef l.length u v w a b m) ∧ HF h0 h (fun _ => False) (fun _ => False) ∧ TLive h t L.length ∧ TNv h0 t) ?_ 4 ?_
        rotate_left
        · exact ⟨1, L, t, rfl, Nat.le_refl _, by decide, by simp [t5], by simp [t7], by simp [t15], by simp [t16], by simp [t17], by simp, lp, fp, by omega, mem, hf, live, new⟩
        clear t5 t7 t15 t16 t17 lp fp hL mem hf live new
        rintro q S h ⟨w, L, t, hq, hw1, hw5, t5, t7, t15, t16, t17, t18, lp, fp, hL, mem, hf, live, new⟩ ih3
        by_cases hlw : w < 5
        · have ju := idxOf_nat (k := .i64) (show u < 100 by omega)
          have jv := idxOf_nat (k := .i64) (show v < 100 by omega)
          have jw := idxOf_nat (k := .i64) hlw
          have hwi : (w : Int) < 5 := by omega
          have at1 := arcBox_at F (show u < 100 by omega) (show v < 100 by omega) hlw
          have hle : u * 500 + v * 5 + w ≤ 49999 := by omega
          have hbef : ∀ a b m, Bef l.length u v (w + 1) a b m ↔ Bef l.length u v w a b m ∨ (a = u ∧ b = v ∧ m = w) := fun a b m => by
            unfold Bef
            omega
          cases hF1 : F u v w
          · rw [hF1] at at1
            simp -implicitDefEqProofs [t7, t16, t17, t18, lp, fp, at1, hwi, hle, show (u : Int) < 100 by omega, show (v : Int) < 100 by omega, inc_i64 hlw (by decide), -Int.natCast_add]
            refine ih3 (5 - (w + 1)) _ _ (by omega) ⟨w + 1, L, t, rfl, by omega, by omega, by simp [t5], by simp [t7], by simp [t15], by simp [t16], by simp [t17], by simp, lp, fp, by omega, fun a b m => ?_, hf, live, new⟩
            rw [mem, hbef]
            constructor
            · exact fun h => ⟨h.1, .inl h.2⟩
            · rintro ⟨h1, h2 | ⟨rfl, rfl, rfl⟩⟩
              · exact ⟨h1, h2⟩
              · rw [hF1] at h1; cases h1
          · rw [hF1] at at1
            simp -implicitDefEqProofs [t7, t15, t16, t17, t18, lp, fp, at1, hwi, hle, show (u : Int) < 100 by omega, show (v : Int) < 100 by omega]
            refine appQ_tok (t := t) (es := L.map encA3) (es2 := [encA3 (u, v, w)]) (by simpa using live) (fun e he => by obtain ⟨a, _, rfl⟩ := List.mem_map.1 he; rfl) (by simp [srcA, encA3]) (by simp; omega) fun t' h3 p1 p2 p3 p4 => ?_
            simp -implicitDefEqProofs [t18, inc_i64 hlw (by decide), -Int.natCast_add]
            refine ih3 (5 - (w + 1)) _ _ (by omega) ⟨w + 1, L ++ [(u, v, w)], t', rfl, by omega, by omega, by simp [t5], by simp [t7], by simp, by simp [t16], by simp [t17], by simp, by omega, by rw [p3.bx p lp fun h => h, fp], by simp; omega, fun a b m => ?_, hf.trans' p3 (fun _ _ h => h) (fun i hi ho => new i hi ho), by simpa using p1, new.next hf p2⟩
            rw [List.mem_append, mem, hbef]
            constructor
            · rintro (h | h)
              · exact ⟨h.1, .inl h.2⟩
              · have h := List.mem_singleton.1 h
                cases h
                exact ⟨hF1, .inr ⟨rfl, rfl, rfl⟩⟩
            · rintro ⟨h1, h2 | ⟨rfl, rfl, rfl⟩⟩
              · exact .inl ⟨h1, h2⟩
              · exact .inr (List.mem_singleton.2 rfl)
        · obtain rfl : w = 5 := by omega
          simp -implicitDefEqProofs [t17, t18, inc_i64 hlv (by omega), -Int.natCast_add]
          refine ih2 (l.length - (v + 1)) _ _ (by omega) ⟨v + 1, L, t, rfl, by omega, by simp [t5], by simp [t7], by simp [t15], by simp [t16], by simp, lp, fp, by omega, fun a b m => ?_, hf, live, new⟩
          rw [mem]
          have : Bef l.length u v 5 a b m ↔ Bef l.length u (v + 1) 1 a b m := by unfold Bef; omega
          rw [this]
      · obtain rfl : v = l.length := by omega
        simp -implicitDefEqProofs [t5, t16, t17, inc_i64 hlu (by omega), -Int.natCast_add]
        refine ih (l.length - (u + 1)) _ _ (by omega) ⟨u + 1, L, t, rfl, by omega, by simp [t5], by simp [t7], by simp [t15], by simp, lp, fp, by omega, fun a b m => ?_, hf, live, new⟩
        rw [mem]
        have : Bef l.length u l.length 1 a b m ↔ Bef l.length (u + 1) 0 1 a b m := by unfold Bef; omega
        rw [this]
    · obtain rfl : u = l.length := by omega
      simp -implicitDefEqProofs [t5, t15, t16]
      refine ⟨t, L, ⟨rfl, rfl⟩, by omega, fun a b m => ?_, hf⟩
      rw [mem, hF]
      unfold Bef
      constructor
      · rintro ⟨h1, h2, h3, h4, h5⟩
        exact ⟨h1, h2, h3, by omega, h4⟩
      · rintro ⟨h1, h2, h3, h4, h5⟩
        exact ⟨h1, h2, h3, h5, .inl h4⟩
end Go.Proofs
