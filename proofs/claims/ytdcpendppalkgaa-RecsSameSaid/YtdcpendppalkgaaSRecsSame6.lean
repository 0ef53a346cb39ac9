/- What the functions that the statement reaches do: their contracts; and what follows of it. -/
import Derived.Test.YtdcpendppalkgaaSRecsSame5
import Derived.Test.YtdcpendppalkgaaK4
import Derived.Test.YtdcpendppalkgaaSRecsSame4
import Derived.Test.YtdcpendppalkgaaSRecsSame3
/- Which programs, footprints, classes and catalogues there may be: the document's answer. -/
namespace Go.Proofs
open Go Go.RowKit Go.Am

end Go.Proofs

/- Which programs there may be: the program's answer. -/
namespace Go.Proofs
open Go Go.RowKit Go.Am

end Go.Proofs

/- Which programs there may be: the program's answer, joined. -/
namespace Go.Proofs
open Go Go.RowKit Go.Am

end Go.Proofs

/- Which programs and footprints there may be: the program's answer is the document's. -/
namespace Go.Proofs
open Go Go.RowKit Go.Am

theorem any_not {α : Type} (l : List α) (p : α → Bool) : (!l.any fun x => !p x) = l.all p := by
  rw [Bool.eq_iff_iff]; simp

end Go.Proofs

/- Which classes and catalogues there may be: the document's answer. -/
namespace Go.Proofs
open Go Go.RowKit Go.Am

end Go.Proofs

/- Which catalogues there may be: the document's answer. -/
namespace Go.Proofs
open Go Go.RowKit Go.Am

def Ctlg.stepsN (x : Ctlg) (i : Nat) : Nat := (x.classes[i]?.map (·.steps.length)).getD 0
def Ctlg.brk (x : Ctlg) (c d : Nat) : Int := (x.breaks[4 * c + d]?).getD 0
@[simp] theorem take_encCls (y : Cls) : List.take 5 (encCls y) = encCls y := rfl
end Go.Proofs

/- Which footprints there may be: the program's answer; what may compensate. -/
namespace Go.Proofs
open Go Go.RowKit Go.Am

end Go.Proofs

/- Keys of templates, for arguments; which arguments there may be. -/
namespace Go.Proofs
open Go Go.RowKit Go.Am

def encA (a : List Int) : AV := .sl .no (a.map encN)
theorem pure_encA (a : List Int) : PureV (encA a) := pure_sl pure_encN a
theorem wk_encA (a : List Int) : Am.wk (encA a) = encA a := by simp [encA]
theorem elOK_N : ElOK encN 1 false := ⟨fun _ => rfl, (fun _ => rfl), pure_encN, fun x => by simp [encN]⟩
def argOK (x : Int) : Bool := decide (0 ≤ x) && decide (x ≤ 99)
/-- Which arguments may be. -/
def argsOK (a : List Int) : Bool := decide (a.length ≤ 3) && a.all argOK
theorem argOK_iff {x : Int} : argOK x = true ↔ 0 ≤ x ∧ x ≤ 99 := by
  simp only [argOK, Bool.and_eq_true, decide_eq_true_eq]
theorem argsOK_iff {a : List Int} : argsOK a = true ↔ a.length ≤ 3 ∧ ∀ x ∈ a, 0 ≤ x ∧ x ≤ 99 := by
  simp only [argsOK, Bool.and_eq_true, decide_eq_true_eq, List.all_eq_true, argOK_iff]
theorem refArgs_ok (a : List Int) (hl : a.length ≤ 1000000) : PCall Try.prog 18 [encA a] (.bool (argsOK a)) := by
  refine PCall.run hb18 ok18 (by simp) (pures1 (pure_encA a)) (.bool _) ?_
  simp -implicitDefEqProofs [encA]
  refine run_loop (fun n s h => ∃ j : Nat, n = a.length - j ∧ j ≤ a.length ∧ s 0 = encA a ∧ s 3 = .int .i64 j ∧ ∀ i (hi : i < a.length), i < j → argOK a[i] = true) ?_ a.length ?_
  rotate_left
  · exact ⟨0, by simp [encA]⟩
  rintro n s h ⟨j, hn, hj, s0, s3, hall⟩ ih
  rw [encA] at s0
  by_cases hlt : j < a.length
  · have i1 := idxOf_nat (k := .i64) hlt
    have hbad : argOK a[j] = false → argsOK a = false := fun e => by
      rw [Bool.eq_false_iff]; intro h
      have := (argsOK_iff.1 h).2 a[j] (List.getElem_mem hlt)
      rw [← argOK_iff, e] at this
      cases this
    by_cases h0 : a[j] < 0
    · have hb := hbad (by rw [Bool.eq_false_iff]; intro e; have := argOK_iff.1 e; omega)
      simp -implicitDefEqProofs [s0, s3, hlt, encN, h0, hb]
    · by_cases h9 : 99 < a[j]
      · have hb := hbad (by rw [Bool.eq_false_iff]; intro e; have := argOK_iff.1 e; omega)
        simp -implicitDefEqProofs [s0, s3, hlt, encN, h0, h9, hb]
      · simp -implicitDefEqProofs [s0, s3, hlt, encN, h0, h9, inc_i64 hlt (by omega), -Int.natCast_add]
        exact ih (a.length - (j + 1)) _ _ (by omega) ⟨j + 1, rfl, by omega, by simp [s0, encA], by simp, fun i hi hij => by
          by_cases h : i = j
          · subst h; exact argOK_iff.2 ⟨by omega, by omega⟩
          · exact hall i hi (by omega)⟩
  · have hw : a.all argOK = true := List.all_eq_true.2 fun x hx => by
      obtain ⟨i, hi, rfl⟩ := List.mem_iff_getElem.1 hx
      exact hall i hi (by omega)
    have e : argsOK a = decide ((a.length : Int) ≤ 3) := by
      rw [argsOK, hw, Bool.and_true, Bool.eq_iff_iff, decide_eq_true_eq, decide_eq_true_eq]; omega
    simp -implicitDefEqProofs [s0, s3, hlt, e]

end Go.Proofs

/- Which records may be. -/
namespace Go.Proofs
open Go Go.RowKit Go.Am

def emptyN (n : Nod) : Bool := decide (n.saga = 0) && decide (n.cls = 0) && decide (n.step = 0) && !n.back && decide (n.reads.length = 0) && decide (n.writes.length = 0)
def noneR (x : Recd) : Bool := emptyN x.node && decide (x.changes.length = 0) && decide (x.regs = [0, 0, 0, 0])
def belowB (n m : Int) : Bool := decide (0 ≤ n) && decide (n < m)
def plainS (l : List Spn) : Bool := decide (l.length ≤ 8) && decide (l.map spP = plainL (l.map spP))
def chgOK (c : Chg) : Bool := !(c.gone && decide (c.value ≠ 0))
def chgS (l : List Chg) (w : List Spn) : Bool := l.all chgOK && (decide (l.length ≤ 8) && decide (l.map (·.key) = allL (plainL (w.map spP))))
/-- May a record be? -/
def recMay (x : Recd) : Bool :=
  if x.kind = 1 then noneR x && decide (x.saga = 0) && decide (x.why = 0) && belowB x.cls 4 && argsOK x.args
  else if x.kind = 2 then decide (x.saga = 0) && decide (x.why = 0) && decide (x.cls = 0) && decide (x.args.length = 0) && belowB x.node.saga 12 && belowB x.node.cls 4 && belowB x.node.step 4 && plainS x.node.reads && plainS x.node.writes && chgS x.changes x.node.writes
  else if x.kind = 3 then noneR x && decide (x.cls = 0) && decide (x.args.length = 0) && belowB x.saga 12 && decide (1 ≤ x.why) && decide (x.why ≤ 15)
  else false

theorem below_ok (n m : Int) : PCall Try.prog 82 [.int .i64 n, .int .i64 m] (.bool (belowB n m)) := by
  refine PCall.run hb82 ok82 (by simp) (pures2 (.int _ _) (.int _ _)) (.bool _) ?_
  by_cases h : 0 ≤ n
  · simp -implicitDefEqProofs [h, belowB]
  · simp -implicitDefEqProofs [h, belowB]
theorem may1R_ok (x : Int) : PCall Try.prog 81 [.int .i64 x] (.bool (!argOK x)) := by
  refine PCall.run hb81 ok81 (by simp) (pures1 (.int _ _)) (.bool _) ?_
  simp -implicitDefEqProofs []
  refine callQ_p (below_ok x 100) (by simp) ?_
  have e : belowB x 100 = argOK x := by
    rw [Bool.eq_iff_iff, argOK_iff]
    simp only [belowB, Bool.and_eq_true, decide_eq_true_eq]
    omega
  rw [e]
  simp -implicitDefEqProofs []
theorem plainR_ok (l : List Spn) (hl : l.length ≤ 1000000) : PCall Try.prog 84 [.sl .no (l.map encSpn)] (.bool (plainS l)) := by
  rw [encL_spn]
  refine PCall.run hb84 ok84 (by simp) (pures1 (pure_encL _)) (.bool _) ?_
  by_cases h : (l.length : Int) ≤ 8
  · have p := plainL_len (l.map spP)
    have h2 : l.length ≤ 8 := by omega
    simp -implicitDefEqProofs [encL, h]
    refine callQ_p (keysPlain_ok (l.map spP) (by simpa using hl)) (by simp [encL, avP]) ?_
    simp -implicitDefEqProofs []
    refine callQ_p (eqSpan_ok (l.map spP) (plainL (l.map spP)) (by rw [List.length_map]; omega) (by omega)) (by simp [encL, avP]) ?_
    simp -implicitDefEqProofs [plainS, h2]
  · have h2 : ¬ l.length ≤ 8 := by omega
    simp -implicitDefEqProofs [encL, h, plainS, h2]
theorem refPlainR_ok (l : List Spn) (hl : l.length ≤ 1000000) : PCall Try.prog 67 [.sl .no (l.map encSpn)] (.bool (plainS l)) := by
  rw [encL_spn]
  refine PCall.run hb67 ok67 (by simp) (pures1 (pure_encL _)) (.bool _) ?_
  by_cases h : (l.length : Int) ≤ 8
  · have p := plainL_len (l.map spP)
    have h2 : l.length ≤ 8 := by omega
    have o := refOf_ok (l.map spP) (by simpa using hl)
    have e : plainOf (fun k => hasK (l.map spP) k) = plainL (l.map spP) := rfl
    generalize (fun k : Nat => hasK (l.map spP) k) = f at o e
    simp -implicitDefEqProofs [encL, h]
    refine callQ_p o (by simp [encL, avP]) ?_
    simp -implicitDefEqProofs []
    refine callQ_p (refPlain_ok f) (by simp [wk_setP]) ?_
    rw [e]
    simp -implicitDefEqProofs []
    refine callQ_p (refSame_ok (l.map spP) (plainL (l.map spP)) (by rw [List.length_map]; omega) (by omega)) (by simp [encL, avP]) ?_
    simp -implicitDefEqProofs [plainS, h2]
  · have h2 : ¬ l.length ≤ 8 := by omega
    simp -implicitDefEqProofs [encL, h, plainS, h2]
theorem emptyR_ok (n : Nod) : PCall Try.prog 80 [.agg (encNod n)] (.bool (emptyN n)) := by
  refine PCall.run hb80 ok80 (by simp) (pures1 (.agg (pure_encNod n))) (.bool _) ?_
  by_cases h1 : n.saga = 0
  rotate_left
  · simp -implicitDefEqProofs [encNod, H.nil, emptyN, h1]
  by_cases h2 : n.cls = 0
  rotate_left
  · simp -implicitDefEqProofs [encNod, H.nil, emptyN, h1, h2]
  by_cases h3 : n.step = 0
  rotate_left
  · simp -implicitDefEqProofs [encNod, H.nil, emptyN, h1, h2, h3]
  cases h4 : n.back
  rotate_left
  · simp -implicitDefEqProofs [encNod, H.nil, emptyN, h1, h2, h3, h4]
  by_cases h5 : n.reads.length = 0
  rotate_left
  · simp -implicitDefEqProofs [encNod, H.nil, emptyN, h1, h2, h3, h4, h5]
  simp -implicitDefEqProofs [encNod, H.nil, emptyN, h1, h2, h3, h4, h5]

set_option maxHeartbeats 1000000 in
theorem changesR_ok (l : List Chg) (w : List Spn) (hl : l.length ≤ 1000000) (hw : w.length ≤ 1000000) : PCall Try.prog 85 [.sl .no (l.map encChg), .sl .no (w.map encSpn)] (.bool (chgS l w)) := by
  rw [encL_spn]
  refine PCall.run hb85 ok85 (by simp) (pures2 (elOK_C.pureL l) (pure_encL _)) (.bool _) ?_
  simp -implicitDefEqProofs []
  refine run_loop (fun n s h => ∃ (j : Nat) (t : Tok) (d : List Int), n = l.length - j ∧ j ≤ l.length ∧ d = (l.take j).map (·.key) ∧ s 0 = .sl .no (l.map encChg) ∧ s 1 = encL (w.map spP) ∧ s 8 = .sl .no (l.map encChg) ∧ s 9 = .int .i64 l.length ∧ s 10 = .int .i64 j ∧ s 5 = .sl t (d.map encN) ∧ TLive h t d.length ∧ (l.take j).all chgOK = true) ?_ l.length ?_
  rotate_left
  · exact ⟨0, .full, [], by simp [TLive]⟩
  rintro n s h ⟨j, t, d, hn, hj, hd, s0, s1, s8, s9, s10, s5, ht, hall⟩ ih
  by_cases hlt : j < l.length
  · have i1 := idxOf_nat (k := .i64) hlt
    have hs : (l.take (j + 1)).all chgOK = chgOK l[j] := by
      rw [List.take_succ_eq_append_getElem hlt, List.all_append, hall]; simp
    have hbad : chgOK l[j] = false → chgS l w = false := fun e => by
      rw [chgS, Bool.and_eq_false_iff]
      left
      rw [List.all_eq_false]
      exact ⟨_, List.getElem_mem hlt, by rw [e]; simp⟩
    have hkeys : (l.take (j + 1)).map (·.key) = d ++ [l[j].key] := by
      rw [List.take_succ_eq_append_getElem hlt, List.map_append, ← hd]; rfl
    have hdl : d.length ≤ 1000000 := by rw [hd, List.length_map, List.length_take]; omega
    have hgood : chgOK l[j] = true → ∀ (s2 : Slots) (h2 : H), s2 0 = .sl .no (l.map encChg) → s2 1 = encL (w.map spP) → s2 8 = .sl .no (l.map encChg) → s2 9 = .int .i64 l.length → s2 10 = .int .i64 (j + 1 : Nat) → (∃ t', s2 5 = .sl t' ((d ++ [l[j].key]).map encN) ∧ TLive h2 t' (d ++ [l[j].key]).length) → Run Try.prog false [.lp c85_l10, .blk 0, .c (.seq (.reg c85_r11) .ret)] (retQ [.t 4] fun r' _ => Am.wk r' = .bool (chgS l w)) s2 h2 := fun e s2 h2 e0 e1 e8 e9 e10 ⟨t', e5, ht'⟩ =>
      ih (l.length - (j + 1)) _ _ (by omega) ⟨j + 1, t', d ++ [l[j].key], rfl, by omega, hkeys.symm, e0, e1, e8, e9, e10, e5, ht', by rw [hs, e]⟩
    cases hg : l[j].gone
    · have hc : chgOK l[j] = true := by simp [chgOK, hg]
      simp -implicitDefEqProofs [s5, s8, s9, s10, hlt, encChg, hg]
      refine appQ_tok (es2 := [encN l[j].key]) (by rw [List.length_map]; cases t <;> exact ht) (encN_len1 _) (by simp [srcA, encN]) (by simp; omega) fun t' h' q1 q2 q3 q4 => ?_
      simp -implicitDefEqProofs [s10, inc_i64 hlt (by omega), -Int.natCast_add]
      exact hgood hc _ _ (by simp [s0]) (by simp [s1]) (by simp [s8]) (by simp [s9]) (by simp) ⟨t', by simp, by simpa using q1⟩
    · by_cases hv : l[j].value = 0
      · have hc : chgOK l[j] = true := by simp [chgOK, hg, hv]
        simp -implicitDefEqProofs [s5, s8, s9, s10, hlt, encChg, hg, hv]
        refine appQ_tok (es2 := [encN l[j].key]) (by rw [List.length_map]; cases t <;> exact ht) (encN_len1 _) (by simp [srcA, encN]) (by simp; omega) fun t' h' q1 q2 q3 q4 => ?_
        simp -implicitDefEqProofs [s10, inc_i64 hlt (by omega), -Int.natCast_add]
        exact hgood hc _ _ (by simp [s0]) (by simp [s1]) (by simp [s8]) (by simp [s9]) (by simp) ⟨t', by simp, by simpa using q1⟩
      · have hb := hbad (by simp [chgOK, hg, hv])
        simp -implicitDefEqProofs [s8, s9, s10, hlt, encChg, hg, hv, hb]
  · obtain rfl : j = l.length := by omega
    rw [List.take_length] at hd hall
    subst hd
    by_cases h8 : (l.length : Int) ≤ 8
    · have h82 : l.length ≤ 8 := by omega
      simp -implicitDefEqProofs [s0, s1, s5, s9, s10, h8]
      refine callQ_p (keysAll_ok (w.map spP) (by simpa using hw)) (by simp [wk_encL]) ?_
      have hal : (allL (plainL (w.map spP))).length ≤ 9223372036854775807 := by
        rw [allL_plainL]
        have := keysOf_le (fun k => hasK (w.map spP) k) 1000
        omega
      simp -implicitDefEqProofs []
      refine callQ_p (eqInt_ok (l.map (·.key)) (allL (plainL (w.map spP))) (by rw [List.length_map]; omega) hal) (by simp [encN]) ?_
      simp -implicitDefEqProofs [chgS, hall, h82]
    · have h82 : ¬ l.length ≤ 8 := by omega
      simp -implicitDefEqProofs [s0, s9, s10, h8, chgS, h82]
end Go.Proofs

/- What is written of a template, an instruction, a span, a program, a footprint, a class, as items; the program's writers. -/
namespace Go.Proofs
open Go Go.RowKit Go.Am

def iN (n most : Int) : Item := ⟨0, n, most, 0, ⟨#[]⟩, []⟩
def iX (x : Int) : Item := ⟨1, 0, 0, x, ⟨#[]⟩, []⟩
def iF (r : Bool) : Item := ⟨2, if r then 1 else 0, 0, 0, ⟨#[]⟩, []⟩
theorem writeAll_app (a b : List Item) : writeAll (a ++ b) = writeAll a ++ writeAll b := by simp [writeAll]
theorem w_iN (n most : Int) : writeW (iN n most) = [n.toNat] := rfl
theorem w_iX (x : Int) : writeW (iX x) = [signed x] := rfl
theorem w_iF (r : Bool) : writeW (iF r) = [if r then 1 else 0] := by cases r <;> rfl
theorem writeAll_flat {α : Type} (f : α → List Item) (l : List α) : writeAll (l.flatMap f) = l.flatMap fun x => writeAll (f x) := by
  simp [writeAll, List.flatMap_assoc]
theorem flat_snoc {α β : Type} (f : α → List β) {l : List α} {j : Nat} (hj : j < l.length) : (l.take (j + 1)).flatMap f = (l.take j).flatMap f ++ f l[j] := by
  rw [List.take_succ_eq_append_getElem hj, List.flatMap_append]; simp
theorem flat_len {α β : Type} (f : α → List β) (n : Nat) (hf : ∀ x, (f x).length = n) (l : List α) : (l.flatMap f).length = n * l.length := by
  induction l with
  | nil => rfl
  | cons x l ih => rw [List.flatMap_cons, List.length_append, hf, ih, List.length_cons, Nat.mul_add]; omega

theorem WTo.refl {h : H} {b : Nat} {t : Tok} {ws : List Nat} (hw : WB h b t ws) : WTo h b t ws h t := ⟨hw, .inl rfl, HF.refl _ _ _⟩
theorem WTo.al {h h1 : H} {b : Nat} {t t1 : Tok} {ws : List Nat} (a : WTo h b t ws h1 t1) (cs : List AV) : WTo h b t ws (h1.alloc cs) t1 := ⟨a.wb.alloc cs, a.next, a.keep.trans (HF.alloc _ _ _ _)⟩
theorem WTo.so {h h1 : H} {b b' : Nat} {t t1 : Tok} {ws : List Nat} (a : WTo h b t ws h1 t1) (hn : h.bn ≤ b') (hb : b < h.bn) (cs : List AV) : WTo h b t ws (h1.set b' cs) t1 :=
  ⟨⟨by simpa using a.wb.lt, by simp [show ¬ b = b' by omega, a.wb.bx], by simpa using a.wb.live⟩, a.next, a.keep.trans' (HF.set (B := (· = b')) _ rfl) (fun x hx e => by have e : x = b' := e; omega) (fun _ _ h => h)⟩

end Go.Proofs

/- The program's writers of programs and footprints. -/
namespace Go.Proofs
open Go Go.RowKit Go.Am

theorem writeAll_cons (x : Item) (l : List Item) : writeAll (x :: l) = writeW x ++ writeAll l := by simp [writeAll]

end Go.Proofs

/- The steps of a class, over which one ranges; which classes there may be: the program's answer. -/
namespace Go.Proofs
open Go Go.RowKit Go.Am

end Go.Proofs

/- The steps of a class, over which one ranges, whatever a round does. -/
namespace Go.Proofs
open Go Go.RowKit Go.Am

end Go.Proofs

/- Breakpoints: the document's answer and the program's. -/
namespace Go.Proofs
open Go Go.RowKit Go.Am

def bitN (b i : Nat) : Bool := decide (b / 2 ^ i % 2 = 1)
def Ctlg.inn (x : Ctlg) (c : Int) : Bool := decide (0 ≤ c) && decide (c < (x.classes.length : Int)) && decide (c < 4)
def Ctlg.brkAt (x : Ctlg) (c d i : Int) : Bool := x.inn c && x.inn d && decide (0 ≤ i) && decide (i + 1 < (x.stepsN c.toNat : Int)) && bitN (x.brk c.toNat d.toNat).toNat i.toNat

end Go.Proofs

/- Units: their bounds, the document's and the program's. -/
namespace Go.Proofs
open Go Go.RowKit Go.Am

/-! ### The plain law -/
def loF (p : Nat → Bool) : Nat → Nat
  | 0 => 0
  | i + 1 => if p i then i + 1 else loF p i
def hiF (p : Nat → Bool) : Nat → Nat → Nat
  | 0, i => i
  | k + 1, i => if p i then i else hiF p k (i + 1)

def Ctlg.lo (x : Ctlg) (c d : Int) (i : Nat) : Nat := loF (fun j : Nat => x.brkAt c d j) i
def Ctlg.hi (x : Ctlg) (c d : Int) (i : Nat) : Nat := hiF (fun j : Nat => x.brkAt c d j) (x.stepsN c.toNat - 1 - i) i
/-! ### The document's -/
/-! ### The program's -/
structure Ctlg.good (x : Ctlg) : Prop where
  wf : x.wf
  n4 : x.classes.length ≤ 4
  s4 : ∀ c (h : c < x.classes.length), x.classes[c].steps.length ≤ 4
  nn : ∀ c d, 0 ≤ x.brk c d

end Go.Proofs

/- Units: their bounds, the program's; whether a place is open. -/
namespace Go.Proofs
open Go Go.RowKit Go.Am

end Go.Proofs

/- Units: the law's own first look; catalogues that are opened and closed. -/
namespace Go.Proofs
open Go Go.RowKit Go.Am

end Go.Proofs

/- Catalogues that are copied. -/
namespace Go.Proofs
open Go Go.RowKit Go.Am

section
variable {α : Type} {enc : α → List AV} {z : Nat}
end

/-- A catalogue with other breakpoints. -/
def Ctlg.with (x : Ctlg) (l : List Int) : Ctlg := ⟨x.classes, l⟩
def Cls.all (c : Cls) : Int := 2 ^ (c.steps.length - 1) - 1
end Go.Proofs

/- Pairs of classes, by a function over which one ranges; a catalogue that is opened. -/
namespace Go.Proofs
open Go Go.RowKit Go.Am

end Go.Proofs

/- What a catalogue that may be is; its opened and its closed one. -/
namespace Go.Proofs
open Go Go.RowKit Go.Am

end Go.Proofs

/- The program's writers of footprints, steps and classes. -/
namespace Go.Proofs
open Go Go.RowKit Go.Am

end Go.Proofs

/- The program's writer of classes. -/
namespace Go.Proofs
open Go Go.RowKit Go.Am

theorem WTo.sl {h h1 : H} {b : Nat} {t t1 : Tok} {ws : List Nat} (a : WTo h b t ws h1 t1) {L : Nat} (hL : h.ln ≤ L) (o : Option LoopA) : WTo h b t ws (h1.setLoop L o) t1 :=
  ⟨⟨a.wb.lt, a.wb.bx, by have := a.wb.live; unfold TLive at this ⊢; split <;> simp_all⟩, a.next, ⟨a.keep.bn, a.keep.bx, a.keep.tn, a.keep.tk, a.keep.ln, fun l hl => by have := a.keep.lp l hl; simp [show ¬ l = L by omega]; exact this, a.keep.mn, a.keep.mp⟩⟩
end Go.Proofs

/- What is written, as items: the document's answer. -/
namespace Go.Proofs
open Go Go.RowKit Go.Am

/-- Cells that are these items', where what a slice is over doesn't count. -/
def AreI (es : List (List AV)) (a : List Item) : Prop := es.map (List.map wk) = a.map encItm
theorem AreI.len {es : List (List AV)} {a : List Item} (h : AreI es a) : es.length = a.length := by have := congrArg List.length h; simpa using this
theorem AreI.app {es es2 : List (List AV)} {a b : List Item} (h : AreI es a) (h2 : AreI es2 b) : AreI (es ++ es2) (a ++ b) := by unfold AreI at *; rw [List.map_append, List.map_append, h, h2]
end Go.Proofs

/- What is written of footprints and classes, as items; the words of items: the document's answer. -/
namespace Go.Proofs
open Go Go.RowKit Go.Am

end Go.Proofs

/- Breakpoints that are counted; a catalogue's breakpoints that may be: plain laws. -/
namespace Go.Proofs
open Go Go.RowKit Go.Am

def Ctlg.one (x : Ctlg) (c d i : Nat) : Nat := if x.brkAt c d i = true then 1 else 0

end Go.Proofs

/- What is the same as itself: the document's answer. -/
namespace Go.Proofs
open Go Go.RowKit Go.Am

end Go.Proofs

/- The words of items: the document's answer; what is the same as itself: the program's answer. -/
namespace Go.Proofs
open Go Go.RowKit Go.Am

end Go.Proofs

/- Reading of codes, as lists: what is read of words; a text's bytes in words. -/
namespace Go.Proofs
open Go Go.RowKit Go.Am

/-- The byte at a place of words. -/
def wbyte (ws : List Nat) (j : Nat) : Nat := ws.getD (j / 8) 0 / 256 ^ (j % 8) % 256
/-! ### What is read -/
def backI (w : Nat) : Int := if w % 2 = 0 then ((w / 2 : Nat) : Int) else -((w / 2 : Nat) : Int) - 1
theorem backI_signed (x : Int) : backI (signed x) = x := by
  unfold backI signed
  split <;> split <;> omega
/-- What is read of words: a value, and what is left. -/
abbrev Rd (α : Type) := List Nat → Option (α × List Nat)
def rdCount (most : Int) : Rd Int
  | [] => none
  | w :: l => if 0 ≤ most ∧ (w : Int) ≤ most then some ((w : Int), l) else none
def rdSigned : Rd Int
  | [] => none
  | w :: l => some (backI w, l)
def rdFlag : Rd Bool := fun l => (rdCount 1 l).map fun p => (decide (p.1 = 1), p.2)
end Go.Proofs

/- The program's reader of codes. -/
namespace Go.Proofs
open Go Go.RowKit Go.Am

/-- A reader's state: the words that are left; none: it isn't right. -/
abbrev RS := Option (List Nat)
def encRS : RS → List AV
  | some l => [encW l, .bool false]
  | none => [.any1, .bool true]
def Bd (s : RS) : Prop := ∀ l, s = some l → l.length ≤ 1000000 ∧ ∀ w ∈ l, w < 18446744073709551616
structure RIs (h : H) (b : Nat) (s : RS) : Prop where
  blt : b < h.bn
  bx : h.bx b = some (encRS s)
  bd : Bd s
structure RTo (h : H) (b : Nat) (h' : H) (s' : RS) : Prop where
  keep : HF h h' (· = b) (fun _ => False)
  is : RIs h' b s'
/-- Where a piece of reading ends. -/
def RFin (h : H) (b : Nat) (h' : H) (s' : RS) : Prop := HF h h' (· = b) (fun _ => False) ∧ ∃ cs1, h'.bx b = some cs1 ∧ WkL cs1 (encRS s')
theorem RFin.bad {h h' : H} {b : Nat} {v : AV} (a : HF h h' (· = b) (fun _ => False)) (hb : h'.bx b = some [v, .bool true]) : RFin h b h' none := ⟨a, _, hb, .cons (.any v) (.cons (.refl _) .nil)⟩
theorem RFin.set {h h' : H} {b : Nat} {v : AV} (a : HF h h' (· = b) (fun _ => False)) : RFin h b (h'.set b [v, .bool true]) none := RFin.bad (v := v) (a.trans (HF.set _ rfl)) (by simp)
theorem RFin.ok {h h' : H} {b : Nat} {cs : List AV} {s : RS} (a : HF h h' (· = b) (fun _ => False)) (e : cs = encRS s) : RFin h b (h'.set b cs) s := by
  subst e
  exact ⟨a.trans (HF.set _ rfl), _, by simp, WkL.refl _⟩
theorem pure_encRS : ∀ (s : RS), ∀ v ∈ encRS s, PureV v
  | some l => pures_cons (pure_w64 l) (pures1 (.bool _))
  | none => pures_cons .any1 (pures1 (.bool _))
theorem RTo.trans {h h1 h2 : H} {b : Nat} {s1 s2 : RS} (a : RTo h b h1 s1) (c : RTo h1 b h2 s2) : RTo h b h2 s2 := ⟨a.keep.trans c.keep, c.is⟩
theorem RTo.refl {h : H} {b : Nat} {s : RS} (a : RIs h b s) : RTo h b h s := ⟨HF.refl _ _ _, a⟩
theorem RTo.set {h : H} {b : Nat} {s s' : RS} (a : RIs h b s) (hb : Bd s') : RTo h b (h.set b (encRS s')) s' := ⟨HF.set _ rfl, by simpa using a.blt, by simp, hb⟩
theorem RIs.alloc {h : H} {b : Nat} {s : RS} (a : RIs h b s) (cs : List AV) : RIs (h.alloc cs) b s := by
  have h1 := a.blt
  have hne : b ≠ h.bn := by omega
  exact ⟨by simp; omega, by simpa [hne] using a.bx, a.bd⟩
theorem RTo.alloc {h h' : H} {b : Nat} {s : RS} {cs : List AV} (a : RTo (h.alloc cs) b h' s) : RTo h b h' s := ⟨(HF.alloc h cs _ _).trans a.keep, a.is⟩
theorem RIs.keep {h h' : H} {b : Nat} {s : RS} (a : RIs h b s) {B T : Nat → Prop} (e : HF h h' B T) (hb : ¬ B b) : RIs h' b s :=
  ⟨Nat.lt_of_lt_of_le a.blt e.bn, (e.bx b a.blt hb).trans a.bx, a.bd⟩

/-- What a piece of reading made of a state. -/
def Got {α : Type} (p : Rd α) (s : RS) (a : α) (s' : RS) : Prop :=
  match s.bind p with
  | some (a', l') => a = a' ∧ s' = some l'
  | none => s' = none
def Rd.bind {α β : Type} (p : Rd α) (q : α → Rd β) : Rd β := fun l => (p l).bind fun x => q x.1 x.2
def Rd.pure {α : Type} (a : α) : Rd α := fun l => some (a, l)
theorem Got.bind {α β : Type} {p : Rd α} {q : α → Rd β} {s s1 s2 : RS} {a : α} {b : β} (h1 : Got p s a s1) (h2 : Got (q a) s1 b s2) : Got (p.bind q) s b s2 := by
  unfold Got at h1 h2 ⊢
  cases s with
  | none => simp only [Option.bind_none] at h1 ⊢; subst h1; simpa using h2
  | some l =>
    simp only [Option.bind_some, Rd.bind] at h1 ⊢
    cases hp : p l with
    | none => rw [hp] at h1; simp only at h1; subst h1; simpa using h2
    | some x => rw [hp] at h1; simp only at h1; obtain ⟨rfl, rfl⟩ := h1; simpa using h2
theorem Got.pure {α : Type} (a : α) (s : RS) : Got (Rd.pure a) s a s := by cases s <;> simp [Got, Rd.pure]
theorem Got.map {α β : Type} {p : Rd α} {f : α → β} {s s1 : RS} {a : α} (h1 : Got p s a s1) : Got (fun l => (p l).map fun x => (f x.1, x.2)) s (f a) s1 := by
  unfold Got at h1 ⊢
  cases s with
  | none => simpa using h1
  | some l =>
    simp only [Option.bind_some] at h1 ⊢
    cases hp : p l with
    | none => rw [hp] at h1; simpa using h1
    | some x => rw [hp] at h1; obtain ⟨rfl, rfl⟩ := h1; simp
/-- A piece that is read; else d. -/
def runS {α : Type} (p : Rd α) (d : α) (s : RS) : α × RS := (s.bind p).elim (d, none) fun x => (x.1, some x.2)
theorem Got.runS {α : Type} (p : Rd α) (d : α) (s : RS) : Got p s (Proofs.runS p d s).1 (Proofs.runS p d s).2 := by
  unfold Got Proofs.runS
  cases s.bind p <;> simp

theorem RIs.new {l : List Nat} (hl : Bd (some l)) (h : H) : RIs (h.alloc (encRS (some l))) h.bn (some l) := ⟨by simp, by simp, hl⟩

/-- A piece of reading: its value, and what is left; where it isn't right, d. -/
structure RdS {α : Type} (f : FuncId) (args : List AV) (h : H) (b : Nat) (s : RS) (p : Rd α) (d : α) (enc : α → AV) : Prop where
  call : SCall Try.prog f args h (enc (runS p d s).1) (h.set b (encRS (runS p d s).2))
  to : RTo h b (h.set b (encRS (runS p d s).2)) (runS p d s).2

/-- What is left is of what there was. -/
def RdOK {α : Type} (p : Rd α) : Prop := ∀ l a l', p l = some (a, l') → l'.length ≤ l.length ∧ ∀ w ∈ l', w ∈ l
theorem RdOK.bd {α : Type} {p : Rd α} (hp : RdOK p) (d : α) {s : RS} (hs : Bd s) : Bd (runS p d s).2 := fun l' e => by
  unfold runS at e
  cases s with
  | none => simp at e
  | some l =>
    cases hq : p l with
    | none => simp [hq] at e
    | some x =>
      simp [hq] at e; subst e
      obtain ⟨h1, h2⟩ := hs l rfl
      obtain ⟨h3, h4⟩ := hp l x.1 x.2 hq
      exact ⟨Nat.le_trans h3 h1, fun w hw => h2 w (h4 w hw)⟩
theorem RdOK.bind {α β : Type} {p : Rd α} {q : α → Rd β} (hp : RdOK p) (hq : ∀ a, RdOK (q a)) : RdOK (p.bind q) := fun l b l' e => by
  simp only [Rd.bind, Option.bind_eq_some_iff] at e
  obtain ⟨x, e1, e2⟩ := e
  obtain ⟨h1, h2⟩ := hp l x.1 x.2 e1
  obtain ⟨h3, h4⟩ := hq x.1 x.2 b l' e2
  exact ⟨Nat.le_trans h3 h1, fun w hw => h2 w (h4 w hw)⟩
theorem RdOK.pure {α : Type} (a : α) : RdOK (Rd.pure a) := fun l b l' e => by
  simp only [Rd.pure, Option.some.injEq, Prod.mk.injEq] at e
  rw [e.2]; exact ⟨Nat.le_refl _, fun w hw => hw⟩

theorem RdS.mk' {α : Type} {f : FuncId} {args : List AV} {h : H} {b : Nat} {s : RS} {p : Rd α} {d : α} {enc : α → AV} (hr : RIs h b s) (hp : RdOK p) (hv : ∀ a, PureV (enc a)) (hc : CallP Try.prog f args h fun r h1 => wk r = enc (runS p d s).1 ∧ RFin h b h1 (runS p d s).2) : RdS f args h b s p d enc :=
  ⟨SCall.upd hr.blt (hc.mono fun r h1 ⟨q1, q2, q3⟩ => ⟨q1, q2, q3⟩) (hv _) (pure_encRS _), RTo.set hr (hp.bd d hr.bd)⟩

def wbytes (ws : List Nat) (j : Nat) : List Nat := (List.range j).map (wbyte ws)
@[simp] theorem wbytes_len (ws : List Nat) (j : Nat) : (wbytes ws j).length = j := by simp [wbytes]
end Go.Proofs

/- The document's reader of codes: gimmalref01.Read. -/
namespace Go.Proofs
open Go Go.RowKit Go.Am

/-- A value that says less. -/
def Wkr (r r' : AV) : Prop := ∀ (w : World) (g : G) (V : Value), Rep w g r V → Rep w g r' V
theorem Wkr.refl (r : AV) : Wkr r r := fun _ _ _ h => h
theorem Wkr.wk {r r' : AV} (h : wk r = r') : Wkr r r' := fun _ _ _ h' => h ▸ h'.wk
theorem Wkr.tup {l l' : List AV} (hl : l.length = l'.length) (h : ∀ (k : Nat) (v v' : AV), l[k]? = some v → l'[k]? = some v' → Wkr v v') : Wkr (.tup l) (.tup l') := fun w g V hr => by
  cases hr with
  | tup cs C hC q =>
    refine .tup l' C (hl ▸ hC) fun k hk => ?_
    exact h k _ _ (List.getElem?_eq_getElem (by omega)) (List.getElem?_eq_getElem hk) w g _ (q k (by omega))
theorem Wkr.agg {l l' : List AV} (h : WkL l l') : Wkr (.agg l) (.agg l') := fun w g V hr => by
  cases hr with
  | agg cs C hC q q2 =>
    refine .agg l' C (h.len ▸ hC) (fun k hk => ?_) fun k hk => ?_
    · obtain ⟨v1, e1, e2⟩ := h.get k _ (List.getElem?_eq_getElem hk)
      obtain ⟨hk', rfl⟩ := List.getElem?_eq_some_iff.1 e1
      exact (e2 (q2 k hk')).2 w g _ (q k hk')
    · obtain ⟨v1, e1, e2⟩ := h.get k _ (List.getElem?_eq_getElem hk)
      obtain ⟨hk', rfl⟩ := List.getElem?_eq_some_iff.1 e1
      exact (e2 (q2 k hk')).1
theorem Wkr.one {v : AV} (h : ok1 v = true) : Wkr v .any1 := fun _ _ V hv => .any1 V (ok1_one hv h)
structure ReadS (s : Slots) (h : H) (w : Nat) (l : List Nat) (kind most : Int) (cs : List AV) : Prop where
  s0 : s 0 = encW (w :: l)
  s1 : s 1 = .int .i64 kind
  s6 : s 6 = .ptr 0 0
  s9 : s 9 = .ptr 1 0
  s11 : s 11 = encW l
  bn : h.bn = 2
  b0 : h.bx 0 = some [.int .i64 0, .int .i64 0, .int .i64 0, .int .i64 0, .str ⟨#[]⟩, .sl .full []]
  b1 : h.bx 1 = some cs

theorem ReadS.app {s : Slots} {h h' : H} {w : Nat} {l : List Nat} {kind most : Int} {cs : List AV} {T : Nat → Prop} (a : ReadS s h w l kind most cs) (e : HF h h' (fun _ => False) T) (hb : h'.bn = h.bn) : ReadS s h' w l kind most cs :=
  ⟨a.s0, a.s1, a.s6, a.s9, a.s11, hb.trans a.bn, (e.bx 0 (by rw [a.bn]; omega) fun h => h).trans a.b0, (e.bx 1 (by rw [a.bn]; omega) fun h => h).trans a.b1⟩
end Go.Proofs

/- The statements CodesRead and CodesBack: what their functions hand back. -/
namespace Go.Proofs
open Go Go.RowKit Go.Am

structure RdX (f : FuncId) (args : List AV) (h : H) (b : Nat) (r : AV) (s' : RS) : Prop where
  call : SCall Try.prog f args h r (h.set b (encRS s'))
  to : RTo h b (h.set b (encRS s')) s'
theorem RdX.mk' {f : FuncId} {args : List AV} {h : H} {b : Nat} {s s' : RS} {r : AV} (hr : RIs h b s) (hb : Bd s') (hv : PureV r) (hc : CallP Try.prog f args h fun r1 h1 => wk r1 = r ∧ RFin h b h1 s') : RdX f args h b r s' :=
  ⟨SCall.upd hr.blt (hc.mono fun r1 h1 ⟨q1, q2, q3⟩ => ⟨q1, q2, q3⟩) hv (pure_encRS _), RTo.set hr hb⟩

end Go.Proofs

/- The statement CodesRead: what its function hands back. -/
namespace Go.Proofs
open Go Go.RowKit Go.Am

theorem RIs.setO {h : H} {b b' : Nat} {s : RS} {cs : List AV} (a : RIs h b s) (hn : ¬ b' = b) : RIs (h.set b' cs) b s :=
  ⟨by simpa using a.blt, by have : ¬ b = b' := fun e => hn e.symm
                            simpa [this] using a.bx, a.bd⟩

end Go.Proofs

/- What is read as a template, an instruction, a span, a program, a footprint, a class: plain laws; contracts of readers. -/
namespace Go.Proofs
open Go Go.RowKit Go.Am

def Rd.none {α : Type} : Rd α := fun _ => Option.none
def Rd.rep {α : Type} (p : Rd α) : Nat → Rd (List α)
  | 0 => Rd.pure []
  | k + 1 => (Rd.rep p k).bind fun L => p.bind fun a => Rd.pure (L ++ [a])
def rdKey : Rd KeyT := rdSigned.bind fun a => if a < -1 ∨ 255 < a then Rd.none else (rdCount 999).bind fun n => Rd.pure ⟨a, n⟩
def rdInst : Rd Inst := (rdCount 255).bind fun op => (rdCount 255).bind fun a => (rdCount 255).bind fun b => (rdCount 255).bind fun c => rdKey.bind fun k => rdKey.bind fun l => rdSigned.bind fun x => Rd.pure ⟨op, a, b, c, k, l, x⟩
def rdSpanT : Rd SpanT := rdKey.bind fun lo => rdKey.bind fun hi => rdFlag.bind fun w => Rd.pure ⟨lo, hi, w⟩
def rdProg : Rd (List Inst) := (rdCount 8).bind fun n => Rd.rep rdInst n.toNat
def rdFoot : Rd (List SpanT) := (rdCount 4).bind fun n => Rd.rep rdSpanT n.toNat
def rdStp : Rd Stp := rdProg.bind fun c => rdFoot.bind fun f => Rd.pure ⟨c, f⟩
def rdPair : Rd (Stp × Stp) := rdStp.bind fun s => rdStp.bind fun u => Rd.pure (s, u)
theorem Got.bad {α : Type} {p : Rd α} {s' : RS} {a : α} (h : Got p none a s') : s' = none := h
/-- Where it isn't right, the value doesn't count. -/
theorem Got.any {α : Type} {p : Rd α} {s : RS} {a : α} (h : Got p s a none) (b : α) : Got p s b none := by
  unfold Got at h ⊢
  cases hp : s.bind p with
  | none => rfl
  | some x => rw [hp] at h; obtain ⟨_, h2⟩ := h; cases h2
theorem Got.eq {α : Type} {p : Rd α} {s : RS} {a : α} {l' : List Nat} (h : Got p s a (some l')) (d : α) : Proofs.runS p d s = (a, some l') := by
  unfold Got at h
  unfold Proofs.runS
  cases hp : s.bind p with
  | none => rw [hp] at h; cases h
  | some x => rw [hp] at h; obtain ⟨rfl, h2⟩ := h; cases h2; rfl
theorem Got.none_eq {α : Type} {p : Rd α} {s : RS} {a : α} (h : Got p s a none) (d : α) : Proofs.runS p d s = (d, none) := by
  unfold Got at h
  unfold Proofs.runS
  cases hp : s.bind p with
  | none => rfl
  | some x => rw [hp] at h; obtain ⟨_, h2⟩ := h; cases h2

theorem RdOK.none {α : Type} : RdOK (Rd.none (α := α)) := fun l a l' h => by cases h
theorem RdOK.rep {α : Type} {p : Rd α} (hp : RdOK p) : ∀ k, RdOK (Rd.rep p k)
  | 0 => RdOK.pure _
  | k + 1 => (RdOK.rep hp k).bind fun _ => hp.bind fun _ => RdOK.pure _
theorem CutOK.upd {P : Program} {h h1 : H} {b : Nat} {cs cs1 : List AV} {r1 r : AV} (hb : b < h.bn) (e : wk r1 = r) (hf : HF h h1 (· = b) (fun _ => False)) (hb1 : h1.bx b = some cs1) (hcs1 : WkL cs1 cs) (hr : PureV r) (hcs : ∀ v ∈ cs, PureV v) : CutOK h h1 (h.set b cs) id r1 r := by
  refine ⟨Nat.le_refl _, fun _ _ => rfl, fun b hb => Nat.lt_of_lt_of_le hb hf.bn, fun _ _ _ _ h => h, fun b' cs' hb' hcs' => ?_, ⟨Nat.le_refl _, hf.tn⟩, fun i hi => (hf.tk i hi fun h => h).symm, ⟨rfl, hf.ln⟩,
    fun l q hl hq => ⟨(hf.lp l hl).trans hq, q, hq, rfl⟩, ⟨rfl, hf.mn⟩, fun m es hm hes => ⟨(hf.mp m hm).trans hes, hes⟩, Low.weak' ?_⟩
  · by_cases hbb : b' = b
    · subst hbb
      have : cs = cs' := by simpa [H.set] using hcs'
      subst this
      exact .inr ⟨cs1, hb1, hcs1, fun v hv => (hcs v hv).low _ _ _ _ _⟩
    · have : h.bx b' = some cs' := by simpa [H.set, hbb] using hcs'
      exact .inl ⟨hb', (hf.bx b' hb' hbb).trans this, this⟩
  · rw [e]
    exact hr.low _ _ _ _ _

/-- A piece of reading, whatever it hands back where it isn't right. -/
def RdQ {α : Type} (f : FuncId) (args : List AV) (h : H) (b : Nat) (s : RS) (p : Rd α) (enc : α → AV) : Prop :=
  CallP Try.prog f args h fun r h1 => ∃ a s', r = enc a ∧ h1 = h.set b (encRS s') ∧ RTo h b h1 s' ∧ Got p s a s'
theorem RdQ.mk' {α : Type} {f : FuncId} {args : List AV} {h : H} {b : Nat} {s : RS} {p : Rd α} {enc : α → AV} (hr : RIs h b s) (hv : ∀ a, PureV (enc a))
    (hc : CallP Try.prog f args h fun r h1 => ∃ a s', wk r = enc a ∧ RFin h b h1 s' ∧ Bd s' ∧ Got p s a s') : RdQ f args h b s p enc :=
  hc.cut fun r h1 ⟨a, s', e, ⟨hf, cs1, hb1, hcs1⟩, hbd, hg⟩ => ⟨h.set b (encRS s'), id, enc a, CutOK.upd (P := Try.prog) hr.blt e hf hb1 hcs1 (hv a) (pure_encRS _), a, s', rfl, rfl, RTo.set hr hbd, hg⟩
theorem RdS.q {α : Type} {f : FuncId} {args : List AV} {h : H} {b : Nat} {s : RS} {p : Rd α} {d : α} {enc : α → AV} (hc : RdS f args h b s p d enc) : RdQ f args h b s p enc :=
  hc.call.callP ⟨_, _, rfl, rfl, hc.to, Got.runS p d s⟩
/-- What is read whole, or nothing. -/
theorem RdS.of {α : Type} {f : FuncId} {args : List AV} {h : H} {b : Nat} {s : RS} {p : Rd α} {d : α} {enc : α → AV} (hr : RIs h b s) (hp : RdOK p) (hv : ∀ a, PureV (enc a))
    (hc : CallP Try.prog f args h fun r h1 => ∃ a s', wk r = enc a ∧ RFin h b h1 s' ∧ Got p s a s' ∧ (s' = none → a = d)) : RdS f args h b s p d enc :=
  RdS.mk' hr hp hv (hc.mono fun r h1 ⟨a, s', q1, q2, q3, q4⟩ => by
    cases s' with
    | none =>
      rw [Got.none_eq q3 d, ← q4 rfl]
      exact ⟨q1, q2⟩
    | some l =>
      rw [Got.eq q3 d]
      exact ⟨q1, q2⟩)

/-- A slice that was made since. -/
def TNew (h : H) (t : Tok) : Prop := ∀ i, i < h.tn → ¬ TOwn t i
theorem TNew.full (h : H) : TNew h .full := fun i _ h => by cases h
theorem TNew.next {h h1 : H} {t t' : Tok} {B T : Nat → Prop} (a : TNew h t) (e : HF h h1 B T) (n : TNext h1 t t') : TNew h t' := fun i hi ho => by
  rcases n with rfl | ⟨j, rfl, hj⟩
  · exact a i hi ho
  · cases ho
    have := e.tn
    omega
theorem RTo.app {h h1 h2 : H} {b : Nat} {s : RS} {t : Tok} (a : RTo h b h1 s) (ht : TNew h t) (e : HF h1 h2 (fun _ => False) (TOwn t)) : RTo h b h2 s :=
  ⟨a.keep.trans' e (fun _ _ h => h.elim) (fun i hi h => ht i hi h), a.is.keep e fun h => h⟩
theorem RTo.al {h h1 : H} {b : Nat} {s : RS} (a : RTo h b h1 s) (cs : List AV) : RTo h b (h1.alloc cs) s := ⟨a.keep.trans (HF.alloc _ _ _ _), a.is.alloc _⟩
theorem RTo.so {h h1 : H} {b b' : Nat} {s : RS} (a : RTo h b h1 s) (hn : h.bn ≤ b') (hb : b < h.bn) (cs : List AV) : RTo h b (h1.set b' cs) s :=
  ⟨a.keep.trans' (HF.set (B := (· = b')) _ rfl) (fun x hx e => by have e : x = b' := e; omega) (fun _ _ h => h), a.is.setO (by omega)⟩
theorem RFin.so {h h1 : H} {b b' : Nat} {s : RS} (a : RFin h b h1 s) (hn : h.bn ≤ b') (hb : b < h.bn) (cs : List AV) : RFin h b (h1.set b' cs) s := by
  obtain ⟨q1, cs1, q2, q3⟩ := a
  exact ⟨q1.trans' (HF.set (B := (· = b')) _ rfl) (fun x hx e => by have e : x = b' := e; omega) (fun _ _ h => h), cs1, by simp [show ¬ b = b' by omega, q2], q3⟩
end Go.Proofs

/- The program's readers of programs and footprints. -/
namespace Go.Proofs
open Go Go.RowKit Go.Am

end Go.Proofs

/- The program's readers of programs and footprints, whole. -/
namespace Go.Proofs
open Go Go.RowKit Go.Am

/-- What a loop of reading has done. -/
structure RLoop {α : Type} (h : H) (b : Nat) (s1 : RS) (p : Rd α) (j : Nat) (h1 : H) (sj : RS) (L : List α) (t : Tok) : Prop where
  to : RTo h b h1 sj
  got : Got (Rd.rep p j) s1 L sj
  len : L.length = j
  live : TLive h1 t j
  new : TNew h t
theorem RLoop.next {α : Type} {h h1 h2 h3 : H} {b : Nat} {s1 sj s' : RS} {p : Rd α} {j : Nat} {L : List α} {t t' : Tok} {a : α} (r : RLoop h b s1 p j h1 sj L t) (g : Got p sj a s') (to : RTo h b h2 s')
    (hl : TLive h3 t' (j + 1)) (hn : TNext h2 t t') (hf : HF h2 h3 (fun _ => False) (TOwn t)) : RLoop h b s1 p (j + 1) h3 s' (L ++ [a]) t' :=
  ⟨to.app r.new hf, r.got.bind (g.bind (Got.pure _ _)), by rw [List.length_append, r.len]; rfl, hl, r.new.next to.keep hn⟩

end Go.Proofs

/- The program's reader of footprints and steps. -/
namespace Go.Proofs
open Go Go.RowKit Go.Am

end Go.Proofs

/- Which classes there may be: the program's answer. -/
namespace Go.Proofs
open Go Go.RowKit Go.Am

end Go.Proofs

/- What is read as a class: plain laws. -/
namespace Go.Proofs
open Go Go.RowKit Go.Am

/-- All that is read is such. -/
def RdAll {α : Type} (p : Rd α) (Q : α → Prop) : Prop := ∀ l a l', (∀ w ∈ l, w < 18446744073709551616) → p l = some (a, l') → Q a
theorem RdAll.bind {α β : Type} {p : Rd α} {q : α → Rd β} {R : α → Prop} {Q : β → Prop} (hp : RdAll p R) (ho : RdOK p) (hq : ∀ a, R a → RdAll (q a) Q) : RdAll (p.bind q) Q := fun l b l' hw h => by
  simp only [Rd.bind, Option.bind_eq_some_iff] at h
  obtain ⟨⟨a, l1⟩, h1, h2⟩ := h
  exact hq a (hp l a l1 hw h1) l1 b l' (fun w hm => hw w ((ho l a l1 h1).2 w hm)) h2
theorem RdAll.pure {α : Type} {a : α} {Q : α → Prop} (h : Q a) : RdAll (Rd.pure a) Q := fun l b l' _ e => by
  simp only [Rd.pure, Option.some.injEq, Prod.mk.injEq] at e
  obtain ⟨rfl, _⟩ := e
  exact h
theorem RdAll.none {α : Type} {Q : α → Prop} : RdAll (Rd.none) Q := fun l b l' _ e => by cases e
theorem RdAll.rep {α : Type} {p : Rd α} {Q : α → Prop} (hp : RdAll p Q) (ho : RdOK p) : ∀ k, RdAll (Rd.rep p k) fun L => L.length = k ∧ ∀ a ∈ L, Q a
  | 0 => RdAll.pure ⟨rfl, fun a h => by cases h⟩
  | k + 1 => (RdAll.rep hp ho k).bind (ho.rep k) fun L ⟨h1, h2⟩ => hp.bind ho fun a ha => RdAll.pure ⟨by rw [List.length_append, h1]; rfl, fun x hx => by
    rcases List.mem_append.1 hx with h | h
    · exact h2 x h
    · rw [List.mem_singleton.1 h]; exact ha⟩
theorem Got.all {α : Type} {p : Rd α} {Q : α → Prop} (hp : RdAll p Q) {s : RS} (hs : Bd s) {a : α} {l : List Nat} (h : Got p s a (some l)) : Q a := by
  unfold Got at h
  cases s with
  | none => simp at h
  | some l0 =>
    simp only [Option.bind_some] at h
    cases hq : p l0 with
    | none => rw [hq] at h; cases h
    | some x => rw [hq] at h; obtain ⟨rfl, _⟩ := h; exact hp l0 x.1 x.2 (hs l0 rfl).2 hq

end Go.Proofs

/- What is written of a class is read as that class: plain laws. -/
namespace Go.Proofs
open Go Go.RowKit Go.Am

/-- These words, whatever follows, are read as this. -/
def Back {α : Type} (p : Rd α) (ws : List Nat) (a : α) : Prop := ∀ rest, p (ws ++ rest) = some (a, rest)
theorem Back.bind {α β : Type} {p : Rd α} {q : α → Rd β} {w1 w2 : List Nat} {a : α} {b : β} (h1 : Back p w1 a) (h2 : Back (q a) w2 b) : Back (p.bind q) (w1 ++ w2) b := fun rest => by
  rw [Rd.bind, List.append_assoc, h1]; exact h2 rest
theorem Back.pure {α : Type} (a : α) : Back (Rd.pure a) [] a := fun rest => rfl
theorem Back.last {α β : Type} {p : Rd α} {q : α → Rd β} {w1 : List Nat} {a : α} {b : β} (h1 : Back p w1 a) (h2 : Back (q a) [] b) : Back (p.bind q) w1 b := by
  have := h1.bind h2
  rwa [List.append_nil] at this
theorem Back.count {n most : Int} (h0 : 0 ≤ n) (h1 : n ≤ most) : Back (rdCount most) [n.toNat] n := fun rest => by
  have e : ((n.toNat : Nat) : Int) = n := by omega
  simp only [List.cons_append, List.nil_append, rdCount]
  rw [if_pos ⟨by omega, by omega⟩, e]
theorem Back.signed (x : Int) : Back rdSigned [Proofs.signed x] x := fun rest => by simp [rdSigned, backI_signed]
theorem Back.flag (r : Bool) : Back rdFlag [if r then 1 else 0] r := fun rest => by cases r <;> simp [rdFlag, rdCount]
theorem Back.rep {α : Type} {p : Rd α} {f : α → List Nat} {L : List α} (h : ∀ a ∈ L, Back p (f a) a) : Back (Rd.rep p L.length) (L.flatMap f) L := by
  have key : ∀ k, k ≤ L.length → Back (Rd.rep p k) ((L.take k).flatMap f) (L.take k) := fun k => by
    induction k with
    | zero => intro _; exact Back.pure _
    | succ k ih =>
      intro hk
      have hlt : k < L.length := by omega
      rw [flat_snoc f hlt, List.take_succ_eq_append_getElem hlt]
      exact (ih (by omega)).bind ((h _ (List.getElem_mem hlt)).last (Back.pure _))
  have := key L.length (Nat.le_refl _)
  rwa [List.take_length] at this

end Go.Proofs

/- The document's reader: items, templates, programs, footprints. -/
namespace Go.Proofs
open Go Go.RowKit Go.Am

end Go.Proofs

/- The document's reader: templates, programs, footprints. -/
namespace Go.Proofs
open Go Go.RowKit Go.Am

end Go.Proofs

/- The document's reader of programs and footprints, whole. -/
namespace Go.Proofs
open Go Go.RowKit Go.Am

/-- A loop of reading that isn't right any more. -/
structure BLoop {α : Type} (h : H) (b : Nat) (s1 : RS) (p : Rd α) (j : Nat) (h1 : H) (v : AV) (L : List α) (t : Tok) : Prop where
  keep : HF h h1 (· = b) (fun _ => False)
  blt : b < h1.bn
  bx : h1.bx b = some [v, .bool true]
  got : ∀ L', Got (Rd.rep p j) s1 L' none
  len : L.length = j
  live : TLive h1 t j
  new : TNew h t
end Go.Proofs

/- The program's reader of classes. -/
namespace Go.Proofs
open Go Go.RowKit Go.Am

def clsCells (name : ByteArray) (args : Int) (t t' : Tok) (L : List (Stp × Stp)) (r : Bool) : List AV := [.str name, .int .i64 args, .sl t (L.map fun p => encStp p.1), .sl t' (L.map fun p => encStp p.2), .bool r]
/-- What the loop over the steps has read. -/
structure CLoop (h : H) (b : Nat) (s1 : RS) (name : ByteArray) (args : Int) (j : Nat) (h1 : H) (sj : RS) (L : List (Stp × Stp)) (t t' : Tok) : Prop where
  to : RTo h b h1 sj
  got : Got (Rd.rep rdPair j) s1 L sj
  len : L.length = j
  bx : h1.bx (h.bn + 1) = some (clsCells name args t t' L false)
  b0 : h1.bx h.bn = some [.str ⟨#[]⟩, .int .i64 0, .sl .full [], .sl .full [], .bool false]
  bn : h.bn + 1 < h1.bn
  live : TLive h1 t j
  live' : TLive h1 t' j
  new : TNew h t
  new' : TNew h t'
  apart : TApart t t'

end Go.Proofs

/- The document's reader of classes. -/
namespace Go.Proofs
open Go Go.RowKit Go.Am

end Go.Proofs

/- The law of what is read as a class. -/
namespace Go.Proofs
open Go Go.RowKit Go.Am

end Go.Proofs

/- The law of what is written of a class. -/
namespace Go.Proofs
open Go Go.RowKit Go.Am

end Go.Proofs
