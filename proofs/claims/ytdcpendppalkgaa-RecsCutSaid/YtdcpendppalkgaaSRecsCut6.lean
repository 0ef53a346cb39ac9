/- What the functions that the statement reaches do: their contracts; and what follows of it. -/
import Derived.Test.YtdcpendppalkgaaSRecsCut5
import Derived.Test.YtdcpendppalkgaaK4
import Derived.Test.YtdcpendppalkgaaSRecsCut4
import Derived.Test.YtdcpendppalkgaaSRecsCut3
/- Which programs, footprints, classes and catalogues there may be: the document's answer. -/
namespace Go.Proofs
open Go Go.RowKit Go.Am

theorem elOK_Spn : ElOK encSpn 2 true := ⟨fun _ => rfl, (fun h => by cases h), pure_encSpn, wk_encSpn⟩
theorem elOK_Chg : ElOK encChg 3 true := ⟨fun _ => rfl, (fun h => by cases h), pure_encChg, wk_encChg⟩
end Go.Proofs

/- Which programs there may be: the program's answer. -/
namespace Go.Proofs
open Go Go.RowKit Go.Am

end Go.Proofs

/- Which programs there may be: the program's answer, joined. -/
namespace Go.Proofs
open Go Go.RowKit Go.Am

end Go.Proofs

/- Which programs and footprints there may be: the program's answer is the document's. -/
namespace Go.Proofs
open Go Go.RowKit Go.Am

theorem any_not {α : Type} (l : List α) (p : α → Bool) : (!l.any fun x => !p x) = l.all p := by
  rw [Bool.eq_iff_iff]; simp

end Go.Proofs

/- Which classes and catalogues there may be: the document's answer. -/
namespace Go.Proofs
open Go Go.RowKit Go.Am

end Go.Proofs

/- Which catalogues there may be: the document's answer. -/
namespace Go.Proofs
open Go Go.RowKit Go.Am

def Ctlg.stepsN (x : Ctlg) (i : Nat) : Nat := (x.classes[i]?.map (·.steps.length)).getD 0
def Ctlg.brk (x : Ctlg) (c d : Nat) : Int := (x.breaks[4 * c + d]?).getD 0
@[simp] theorem take_encCls (y : Cls) : List.take 5 (encCls y) = encCls y := rfl
end Go.Proofs

/- Which footprints there may be: the program's answer; what may compensate. -/
namespace Go.Proofs
open Go Go.RowKit Go.Am

end Go.Proofs

/- Keys of templates, for arguments; which arguments there may be. -/
namespace Go.Proofs
open Go Go.RowKit Go.Am

def encA (a : List Int) : AV := .sl .no (a.map encN)
theorem pure_encA (a : List Int) : PureV (encA a) := pure_sl pure_encN a
theorem wk_encA (a : List Int) : Am.wk (encA a) = encA a := by simp [encA]
theorem elOK_N : ElOK encN 1 false := ⟨fun _ => rfl, (fun _ => rfl), pure_encN, fun x => by simp [encN]⟩
def argOK (x : Int) : Bool := decide (0 ≤ x) && decide (x ≤ 99)
/-- Which arguments may be. -/
def argsOK (a : List Int) : Bool := decide (a.length ≤ 3) && a.all argOK
theorem argOK_iff {x : Int} : argOK x = true ↔ 0 ≤ x ∧ x ≤ 99 := by
  simp only [argOK, Bool.and_eq_true, decide_eq_true_eq]
theorem argsOK_iff {a : List Int} : argsOK a = true ↔ a.length ≤ 3 ∧ ∀ x ∈ a, 0 ≤ x ∧ x ≤ 99 := by
  simp only [argsOK, Bool.and_eq_true, decide_eq_true_eq, List.all_eq_true, argOK_iff]
theorem refArgs_ok (a : List Int) (hl : a.length ≤ 1000000) : PCall Try.prog 18 [encA a] (.bool (argsOK a)) := by
  refine PCall.run hb18 ok18 (by simp) (pures1 (pure_encA a)) (.bool _) ?_
  simp -implicitDefEqProofs [encA]
  refine run_loop (fun n s h => ∃ j : Nat, n = a.length - j ∧ j ≤ a.length ∧ s 0 = encA a ∧ s 3 = .int .i64 j ∧ ∀ i (hi : i < a.length), i < j → argOK a[i] = true) ?_ a.length ?_
  rotate_left
  · exact ⟨0, by simp [encA]⟩
  rintro n s h ⟨j, hn, hj, s0, s3, hall⟩ ih
  rw [encA] at s0
  by_cases hlt : j < a.length
  · have i1 := idxOf_nat (k := .i64) hlt
    have hbad : argOK a[j] = false → argsOK a = false := fun e => by
      rw [Bool.eq_false_iff]; intro h
      have := (argsOK_iff.1 h).2 a[j] (List.getElem_mem hlt)
      rw [← argOK_iff, e] at this
      cases this
    by_cases h0 : a[j] < 0
    · have hb := hbad (by rw [Bool.eq_false_iff]; intro e; have := argOK_iff.1 e; omega)
      simp -implicitDefEqProofs [s0, s3, hlt, encN, h0, hb]
    · by_cases h9 : 99 < a[j]
      · have hb := hbad (by rw [Bool.eq_false_iff]; intro e; have := argOK_iff.1 e; omega)
        simp -implicitDefEqProofs [s0, s3, hlt, encN, h0, h9, hb]
      · simp -implicitDefEqProofs [s0, s3, hlt, encN, h0, h9, inc_i64 hlt (by omega), -Int.natCast_add]
        exact ih (a.length - (j + 1)) _ _ (by omega) ⟨j + 1, rfl, by omega, by simp [s0, encA], by simp, fun i hi hij => by
          by_cases h : i = j
          · subst h; exact argOK_iff.2 ⟨by omega, by omega⟩
          · exact hall i hi (by omega)⟩
  · have hw : a.all argOK = true := List.all_eq_true.2 fun x hx => by
      obtain ⟨i, hi, rfl⟩ := List.mem_iff_getElem.1 hx
      exact hall i hi (by omega)
    have e : argsOK a = decide ((a.length : Int) ≤ 3) := by
      rw [argsOK, hw, Bool.and_true, Bool.eq_iff_iff, decide_eq_true_eq, decide_eq_true_eq]; omega
    simp -implicitDefEqProofs [s0, s3, hlt, e]

end Go.Proofs

/- Which records may be. -/
namespace Go.Proofs
open Go Go.RowKit Go.Am

def emptyN (n : Nod) : Bool := decide (n.saga = 0) && decide (n.cls = 0) && decide (n.step = 0) && !n.back && decide (n.reads.length = 0) && decide (n.writes.length = 0)
def noneR (x : Recd) : Bool := emptyN x.node && decide (x.changes.length = 0) && decide (x.regs = [0, 0, 0, 0])
def belowB (n m : Int) : Bool := decide (0 ≤ n) && decide (n < m)
def plainS (l : List Spn) : Bool := decide (l.length ≤ 8) && decide (l.map spP = plainL (l.map spP))
def chgOK (c : Chg) : Bool := !(c.gone && decide (c.value ≠ 0))
def chgS (l : List Chg) (w : List Spn) : Bool := l.all chgOK && (decide (l.length ≤ 8) && decide (l.map (·.key) = allL (plainL (w.map spP))))
/-- May a record be? -/
def recMay (x : Recd) : Bool :=
  if x.kind = 1 then noneR x && decide (x.saga = 0) && decide (x.why = 0) && belowB x.cls 4 && argsOK x.args
  else if x.kind = 2 then decide (x.saga = 0) && decide (x.why = 0) && decide (x.cls = 0) && decide (x.args.length = 0) && belowB x.node.saga 12 && belowB x.node.cls 4 && belowB x.node.step 4 && plainS x.node.reads && plainS x.node.writes && chgS x.changes x.node.writes
  else if x.kind = 3 then noneR x && decide (x.cls = 0) && decide (x.args.length = 0) && belowB x.saga 12 && decide (1 ≤ x.why) && decide (x.why ≤ 15)
  else false

theorem below_ok (n m : Int) : PCall Try.prog 82 [.int .i64 n, .int .i64 m] (.bool (belowB n m)) := by
  refine PCall.run hb82 ok82 (by simp) (pures2 (.int _ _) (.int _ _)) (.bool _) ?_
  by_cases h : 0 ≤ n
  · simp -implicitDefEqProofs [h, belowB]
  · simp -implicitDefEqProofs [h, belowB]
theorem may1R_ok (x : Int) : PCall Try.prog 81 [.int .i64 x] (.bool (!argOK x)) := by
  refine PCall.run hb81 ok81 (by simp) (pures1 (.int _ _)) (.bool _) ?_
  simp -implicitDefEqProofs []
  refine callQ_p (below_ok x 100) (by simp) ?_
  have e : belowB x 100 = argOK x := by
    rw [Bool.eq_iff_iff, argOK_iff]
    simp only [belowB, Bool.and_eq_true, decide_eq_true_eq]
    omega
  rw [e]
  simp -implicitDefEqProofs []
theorem plainR_ok (l : List Spn) (hl : l.length ≤ 1000000) : PCall Try.prog 84 [.sl .no (l.map encSpn)] (.bool (plainS l)) := by
  rw [encL_spn]
  refine PCall.run hb84 ok84 (by simp) (pures1 (pure_encL _)) (.bool _) ?_
  by_cases h : (l.length : Int) ≤ 8
  · have p := plainL_len (l.map spP)
    have h2 : l.length ≤ 8 := by omega
    simp -implicitDefEqProofs [encL, h]
    refine callQ_p (keysPlain_ok (l.map spP) (by simpa using hl)) (by simp [encL, avP]) ?_
    simp -implicitDefEqProofs []
    refine callQ_p (eqSpan_ok (l.map spP) (plainL (l.map spP)) (by rw [List.length_map]; omega) (by omega)) (by simp [encL, avP]) ?_
    simp -implicitDefEqProofs [plainS, h2]
  · have h2 : ¬ l.length ≤ 8 := by omega
    simp -implicitDefEqProofs [encL, h, plainS, h2]
theorem refPlainR_ok (l : List Spn) (hl : l.length ≤ 1000000) : PCall Try.prog 67 [.sl .no (l.map encSpn)] (.bool (plainS l)) := by
  rw [encL_spn]
  refine PCall.run hb67 ok67 (by simp) (pures1 (pure_encL _)) (.bool _) ?_
  by_cases h : (l.length : Int) ≤ 8
  · have p := plainL_len (l.map spP)
    have h2 : l.length ≤ 8 := by omega
    have o := refOf_ok (l.map spP) (by simpa using hl)
    have e : plainOf (fun k => hasK (l.map spP) k) = plainL (l.map spP) := rfl
    generalize (fun k : Nat => hasK (l.map spP) k) = f at o e
    simp -implicitDefEqProofs [encL, h]
    refine callQ_p o (by simp [encL, avP]) ?_
    simp -implicitDefEqProofs []
    refine callQ_p (refPlain_ok f) (by simp [wk_setP]) ?_
    rw [e]
    simp -implicitDefEqProofs []
    refine callQ_p (refSame_ok (l.map spP) (plainL (l.map spP)) (by rw [List.length_map]; omega) (by omega)) (by simp [encL, avP]) ?_
    simp -implicitDefEqProofs [plainS, h2]
  · have h2 : ¬ l.length ≤ 8 := by omega
    simp -implicitDefEqProofs [encL, h, plainS, h2]
theorem emptyR_ok (n : Nod) : PCall Try.prog 80 [.agg (encNod n)] (.bool (emptyN n)) := by
  refine PCall.run hb80 ok80 (by simp) (pures1 (.agg (pure_encNod n))) (.bool _) ?_
  by_cases h1 : n.saga = 0
  rotate_left
  · simp -implicitDefEqProofs [encNod, H.nil, emptyN, h1]
  by_cases h2 : n.cls = 0
  rotate_left
  · simp -implicitDefEqProofs [encNod, H.nil, emptyN, h1, h2]
  by_cases h3 : n.step = 0
  rotate_left
  · simp -implicitDefEqProofs [encNod, H.nil, emptyN, h1, h2, h3]
  cases h4 : n.back
  rotate_left
  · simp -implicitDefEqProofs [encNod, H.nil, emptyN, h1, h2, h3, h4]
  by_cases h5 : n.reads.length = 0
  rotate_left
  · simp -implicitDefEqProofs [encNod, H.nil, emptyN, h1, h2, h3, h4, h5]
  simp -implicitDefEqProofs [encNod, H.nil, emptyN, h1, h2, h3, h4, h5]

set_option maxHeartbeats 1000000 in
theorem changesR_ok (l : List Chg) (w : List Spn) (hl : l.length ≤ 1000000) (hw : w.length ≤ 1000000) : PCall Try.prog 85 [.sl .no (l.map encChg), .sl .no (w.map encSpn)] (.bool (chgS l w)) := by
  rw [encL_spn]
  refine PCall.run hb85 ok85 (by simp) (pures2 (elOK_C.pureL l) (pure_encL _)) (.bool _) ?_
  simp -implicitDefEqProofs []
  refine run_loop (fun n s h => ∃ (j : Nat) (t : Tok) (d : List Int), n = l.length - j ∧ j ≤ l.length ∧ d = (l.take j).map (·.key) ∧ s 0 = .sl .no (l.map encChg) ∧ s 1 = encL (w.map spP) ∧ s 8 = .sl .no (l.map encChg) ∧ s 9 = .int .i64 l.length ∧ s 10 = .int .i64 j ∧ s 5 = .sl t (d.map encN) ∧ TLive h t d.length ∧ (l.take j).all chgOK = true) ?_ l.length ?_
  rotate_left
  · exact ⟨0, .full, [], by simp [TLive]⟩
  rintro n s h ⟨j, t, d, hn, hj, hd, s0, s1, s8, s9, s10, s5, ht, hall⟩ ih
  by_cases hlt : j < l.length
  · have i1 := idxOf_nat (k := .i64) hlt
    have hs : (l.take (j + 1)).all chgOK = chgOK l[j] := by
      rw [List.take_succ_eq_append_getElem hlt, List.all_append, hall]; simp
    have hbad : chgOK l[j] = false → chgS l w = false := fun e => by
      rw [chgS, Bool.and_eq_false_iff]
      left
      rw [List.all_eq_false]
      exact ⟨_, List.getElem_mem hlt, by rw [e]; simp⟩
    have hkeys : (l.take (j + 1)).map (·.key) = d ++ [l[j].key] := by
      rw [List.take_succ_eq_append_getElem hlt, List.map_append, ← hd]; rfl
    have hdl : d.length ≤ 1000000 := by rw [hd, List.length_map, List.length_take]; omega
    have hgood : chgOK l[j] = true → ∀ (s2 : Slots) (h2 : H), s2 0 = .sl .no (l.map encChg) → s2 1 = encL (w.map spP) → s2 8 = .sl .no (l.map encChg) → s2 9 = .int .i64 l.length → s2 10 = .int .i64 (j + 1 : Nat) → (∃ t', s2 5 = .sl t' ((d ++ [l[j].key]).map encN) ∧ TLive h2 t' (d ++ [l[j].key]).length) → Run Try.prog false [.lp c85_l10, .blk 0, .c (.seq (.reg c85_r11) .ret)] (retQ [.t 4] fun r' _ => Am.wk r' = .bool (chgS l w)) s2 h2 := fun e s2 h2 e0 e1 e8 e9 e10 ⟨t', e5, ht'⟩ =>
      ih (l.length - (j + 1)) _ _ (by omega) ⟨j + 1, t', d ++ [l[j].key], rfl, by omega, hkeys.symm, e0, e1, e8, e9, e10, e5, ht', by rw [hs, e]⟩
    cases hg : l[j].gone
    · have hc : chgOK l[j] = true := by simp [chgOK, hg]
      simp -implicitDefEqProofs [s5, s8, s9, s10, hlt, encChg, hg]
      refine appQ_tok (es2 := [encN l[j].key]) (by rw [List.length_map]; cases t <;> exact ht) (encN_len1 _) (by simp [srcA, encN]) (by simp; omega) fun t' h' q1 q2 q3 q4 => ?_
      simp -implicitDefEqProofs [s10, inc_i64 hlt (by omega), -Int.natCast_add]
      exact hgood hc _ _ (by simp [s0]) (by simp [s1]) (by simp [s8]) (by simp [s9]) (by simp) ⟨t', by simp, by simpa using q1⟩
    · by_cases hv : l[j].value = 0
      · have hc : chgOK l[j] = true := by simp [chgOK, hg, hv]
        simp -implicitDefEqProofs [s5, s8, s9, s10, hlt, encChg, hg, hv]
        refine appQ_tok (es2 := [encN l[j].key]) (by rw [List.length_map]; cases t <;> exact ht) (encN_len1 _) (by simp [srcA, encN]) (by simp; omega) fun t' h' q1 q2 q3 q4 => ?_
        simp -implicitDefEqProofs [s10, inc_i64 hlt (by omega), -Int.natCast_add]
        exact hgood hc _ _ (by simp [s0]) (by simp [s1]) (by simp [s8]) (by simp [s9]) (by simp) ⟨t', by simp, by simpa using q1⟩
      · have hb := hbad (by simp [chgOK, hg, hv])
        simp -implicitDefEqProofs [s8, s9, s10, hlt, encChg, hg, hv, hb]
  · obtain rfl : j = l.length := by omega
    rw [List.take_length] at hd hall
    subst hd
    by_cases h8 : (l.length : Int) ≤ 8
    · have h82 : l.length ≤ 8 := by omega
      simp -implicitDefEqProofs [s0, s1, s5, s9, s10, h8]
      refine callQ_p (keysAll_ok (w.map spP) (by simpa using hw)) (by simp [wk_encL]) ?_
      have hal : (allL (plainL (w.map spP))).length ≤ 9223372036854775807 := by
        rw [allL_plainL]
        have := keysOf_le (fun k => hasK (w.map spP) k) 1000
        omega
      simp -implicitDefEqProofs []
      refine callQ_p (eqInt_ok (l.map (·.key)) (allL (plainL (w.map spP))) (by rw [List.length_map]; omega) hal) (by simp [encN]) ?_
      simp -implicitDefEqProofs [chgS, hall, h82]
    · have h82 : ¬ l.length ≤ 8 := by omega
      simp -implicitDefEqProofs [s0, s9, s10, h8, chgS, h82]
end Go.Proofs

/- What is written of a template, an instruction, a span, a program, a footprint, a class, as items; the program's writers. -/
namespace Go.Proofs
open Go Go.RowKit Go.Am

def iN (n most : Int) : Item := ⟨0, n, most, 0, ⟨#[]⟩, []⟩
def iX (x : Int) : Item := ⟨1, 0, 0, x, ⟨#[]⟩, []⟩
def iF (r : Bool) : Item := ⟨2, if r then 1 else 0, 0, 0, ⟨#[]⟩, []⟩
theorem writeAll_app (a b : List Item) : writeAll (a ++ b) = writeAll a ++ writeAll b := by simp [writeAll]
theorem w_iN (n most : Int) : writeW (iN n most) = [n.toNat] := rfl
theorem w_iX (x : Int) : writeW (iX x) = [signed x] := rfl
theorem w_iF (r : Bool) : writeW (iF r) = [if r then 1 else 0] := by cases r <;> rfl
theorem writeAll_flat {α : Type} (f : α → List Item) (l : List α) : writeAll (l.flatMap f) = l.flatMap fun x => writeAll (f x) := by
  simp [writeAll, List.flatMap_assoc]
theorem flat_snoc {α β : Type} (f : α → List β) {l : List α} {j : Nat} (hj : j < l.length) : (l.take (j + 1)).flatMap f = (l.take j).flatMap f ++ f l[j] := by
  rw [List.take_succ_eq_append_getElem hj, List.flatMap_append]; simp
theorem flat_len {α β : Type} (f : α → List β) (n : Nat) (hf : ∀ x, (f x).length = n) (l : List α) : (l.flatMap f).length = n * l.length := by
  induction l with
  | nil => rfl
  | cons x l ih => rw [List.flatMap_cons, List.length_append, hf, ih, List.length_cons, Nat.mul_add]; omega

theorem WTo.refl {h : H} {b : Nat} {t : Tok} {ws : List Nat} (hw : WB h b t ws) : WTo h b t ws h t := ⟨hw, .inl rfl, HF.refl _ _ _⟩
theorem WTo.al {h h1 : H} {b : Nat} {t t1 : Tok} {ws : List Nat} (a : WTo h b t ws h1 t1) (cs : List AV) : WTo h b t ws (h1.alloc cs) t1 := ⟨a.wb.alloc cs, a.next, a.keep.trans (HF.alloc _ _ _ _)⟩
theorem WTo.so {h h1 : H} {b b' : Nat} {t t1 : Tok} {ws : List Nat} (a : WTo h b t ws h1 t1) (hn : h.bn ≤ b') (hb : b < h.bn) (cs : List AV) : WTo h b t ws (h1.set b' cs) t1 :=
  ⟨⟨by simpa using a.wb.lt, by simp [show ¬ b = b' by omega, a.wb.bx], by simpa using a.wb.live⟩, a.next, a.keep.trans' (HF.set (B := (· = b')) _ rfl) (fun x hx e => by have e : x = b' := e; omega) (fun _ _ h => h)⟩

end Go.Proofs

/- The program's writers of programs and footprints. -/
namespace Go.Proofs
open Go Go.RowKit Go.Am

theorem writeAll_cons (x : Item) (l : List Item) : writeAll (x :: l) = writeW x ++ writeAll l := by simp [writeAll]

end Go.Proofs

/- The steps of a class, over which one ranges; which classes there may be: the program's answer. -/
namespace Go.Proofs
open Go Go.RowKit Go.Am

end Go.Proofs

/- The steps of a class, over which one ranges, whatever a round does. -/
namespace Go.Proofs
open Go Go.RowKit Go.Am

end Go.Proofs

/- Breakpoints: the document's answer and the program's. -/
namespace Go.Proofs
open Go Go.RowKit Go.Am

def bitN (b i : Nat) : Bool := decide (b / 2 ^ i % 2 = 1)
def Ctlg.inn (x : Ctlg) (c : Int) : Bool := decide (0 ≤ c) && decide (c < (x.classes.length : Int)) && decide (c < 4)
def Ctlg.brkAt (x : Ctlg) (c d i : Int) : Bool := x.inn c && x.inn d && decide (0 ≤ i) && decide (i + 1 < (x.stepsN c.toNat : Int)) && bitN (x.brk c.toNat d.toNat).toNat i.toNat

end Go.Proofs

/- Units: their bounds, the document's and the program's. -/
namespace Go.Proofs
open Go Go.RowKit Go.Am

/-! ### The plain law -/
def loF (p : Nat → Bool) : Nat → Nat
  | 0 => 0
  | i + 1 => if p i then i + 1 else loF p i
def hiF (p : Nat → Bool) : Nat → Nat → Nat
  | 0, i => i
  | k + 1, i => if p i then i else hiF p k (i + 1)

def Ctlg.lo (x : Ctlg) (c d : Int) (i : Nat) : Nat := loF (fun j : Nat => x.brkAt c d j) i
def Ctlg.hi (x : Ctlg) (c d : Int) (i : Nat) : Nat := hiF (fun j : Nat => x.brkAt c d j) (x.stepsN c.toNat - 1 - i) i
/-! ### The document's -/
/-! ### The program's -/
structure Ctlg.good (x : Ctlg) : Prop where
  wf : x.wf
  n4 : x.classes.length ≤ 4
  s4 : ∀ c (h : c < x.classes.length), x.classes[c].steps.length ≤ 4
  nn : ∀ c d, 0 ≤ x.brk c d

end Go.Proofs

/- Units: their bounds, the program's; whether a place is open. -/
namespace Go.Proofs
open Go Go.RowKit Go.Am

end Go.Proofs

/- Units: the law's own first look; catalogues that are opened and closed. -/
namespace Go.Proofs
open Go Go.RowKit Go.Am

end Go.Proofs

/- Catalogues that are copied. -/
namespace Go.Proofs
open Go Go.RowKit Go.Am

section
variable {α : Type} {enc : α → List AV} {z : Nat}
end

/-- A catalogue with other breakpoints. -/
def Ctlg.with (x : Ctlg) (l : List Int) : Ctlg := ⟨x.classes, l⟩
def Cls.all (c : Cls) : Int := 2 ^ (c.steps.length - 1) - 1
end Go.Proofs

/- Pairs of classes, by a function over which one ranges; a catalogue that is opened. -/
namespace Go.Proofs
open Go Go.RowKit Go.Am

end Go.Proofs

/- What a catalogue that may be is; its opened and its closed one. -/
namespace Go.Proofs
open Go Go.RowKit Go.Am

end Go.Proofs

/- The program's writers of footprints, steps and classes. -/
namespace Go.Proofs
open Go Go.RowKit Go.Am

end Go.Proofs

/- The program's writer of classes. -/
namespace Go.Proofs
open Go Go.RowKit Go.Am

theorem WTo.sl {h h1 : H} {b : Nat} {t t1 : Tok} {ws : List Nat} (a : WTo h b t ws h1 t1) {L : Nat} (hL : h.ln ≤ L) (o : Option LoopA) : WTo h b t ws (h1.setLoop L o) t1 :=
  ⟨⟨a.wb.lt, a.wb.bx, by have := a.wb.live; unfold TLive at this ⊢; split <;> simp_all⟩, a.next, ⟨a.keep.bn, a.keep.bx, a.keep.tn, a.keep.tk, a.keep.ln, fun l hl => by have := a.keep.lp l hl; simp [show ¬ l = L by omega]; exact this, a.keep.mn, a.keep.mp⟩⟩
end Go.Proofs

/- What is written, as items: the document's answer. -/
namespace Go.Proofs
open Go Go.RowKit Go.Am

/-- Cells that are these items', where what a slice is over doesn't count. -/
def AreI (es : List (List AV)) (a : List Item) : Prop := es.map (List.map wk) = a.map encItm
theorem AreI.len {es : List (List AV)} {a : List Item} (h : AreI es a) : es.length = a.length := by have := congrArg List.length h; simpa using this
theorem AreI.six {es : List (List AV)} {a : List Item} (h : AreI es a) : ∀ e ∈ es, e.length = 6 := fun e he => by
  have hm : e.map wk ∈ a.map encItm := by rw [← h]; exact List.mem_map.2 ⟨e, he, rfl⟩
  obtain ⟨x, _, hx⟩ := List.mem_map.1 hm
  have := congrArg List.length hx
  simpa [encItm] using this.symm
theorem AreI.app {es es2 : List (List AV)} {a b : List Item} (h : AreI es a) (h2 : AreI es2 b) : AreI (es ++ es2) (a ++ b) := by unfold AreI at *; rw [List.map_append, List.map_append, h, h2]
/-- Items are appended. -/
theorem appQ_i {h : H} {t t2 : Tok} {es es2 : List (List AV)} {a b : List Item} {K : AV → H → Prop} (e1 : AreI es a) (e2 : AreI es2 b) (ht : TLive h t es.length) (hl : a.length + b.length ≤ 100000)
    (hk : ∀ t' h' es', AreI es' (a ++ b) → TLive h' t' es'.length → HF h h' (fun _ => False) (TOwn t) → h'.bn = h.bn → K (.sl t' es') h') : appQ h 6 72 (.sl t es) (.sl t2 es2) K := by
  refine appQ_tok (es2 := es2) ht e1.six ?_ (by rw [e1.len, e2.len]; omega) fun t' h' q1 q2 q3 q4 => hk t' h' _ (e1.app e2) q1 q3 q4
  simp only [srcA]
  rw [if_pos e2.six]

end Go.Proofs

/- What is written of footprints and classes, as items; the words of items: the document's answer. -/
namespace Go.Proofs
open Go Go.RowKit Go.Am

end Go.Proofs

/- Breakpoints that are counted; a catalogue's breakpoints that may be: plain laws. -/
namespace Go.Proofs
open Go Go.RowKit Go.Am

def Ctlg.one (x : Ctlg) (c d i : Nat) : Nat := if x.brkAt c d i = true then 1 else 0

end Go.Proofs

/- What is the same as itself: the document's answer. -/
namespace Go.Proofs
open Go Go.RowKit Go.Am

end Go.Proofs

/- The words of items: the document's answer; what is the same as itself: the program's answer. -/
namespace Go.Proofs
open Go Go.RowKit Go.Am

theorem refWords_ok (l : List Item) (hl : l.length ≤ 5000) (hx : ∀ x ∈ l, x.ok ∧ x.l.length ≤ 100) : PCall Try.prog 79 [encIs l] (encW (writeAll l)) := by
  refine PCall.run hb79 ok79 (by simp) (pures1 (pure_encIs l)) (pure_w64 _) ?_
  simp -implicitDefEqProofs [encIs, H.nil]
  refine run_loop (fun m S h1 => ∃ (j : Nat) (t : Tok), m = l.length - j ∧ j ≤ l.length ∧ S 0 = .sl .no (l.map encItm) ∧ S 3 = .sl t ((writeAll (l.take j)).map w64) ∧ S 4 = .int .i64 j ∧ TLive h1 t (writeAll (l.take j)).length) ?_ l.length ?_
  rotate_left
  · exact ⟨0, .full, rfl, Nat.zero_le _, by simp, by simp [writeAll], by simp, trivial⟩
  rintro m S h1 ⟨j, t, hm, hj, s0, s3, s4, hL⟩ ih
  by_cases hlt : j < l.length
  · have hb := writeAll_len (l.take j) fun x hx' => (hx x (List.mem_of_mem_take hx')).2
    rw [List.length_take] at hb
    obtain ⟨x1, x2⟩ := hx _ (List.getElem_mem hlt)
    have hsnoc : writeAll (l.take (j + 1)) = writeAll (l.take j) ++ writeW l[j] := by
      unfold writeAll
      rw [List.take_succ_eq_append_getElem hlt, List.flatMap_append, List.flatMap_singleton]
    have e6 : (encItm l[j]).length = 6 := rfl
    have e7 : List.take 6 (encItm l[j]) = encItm l[j] := rfl
    simp -implicitDefEqProofs [s0, s3, s4, hlt, e6, e7]
    refine callQ_ex (refWrite_ok hL l[j] x1 (by omega)) fun r2 h2 ⟨t3, q2⟩ => ?_
    obtain ⟨rfl, p2, p3, p4⟩ := q2
    rw [← hsnoc] at p2
    rw [← hsnoc]
    simp -implicitDefEqProofs [s4, inc_i64 hlt (show l.length ≤ _ by omega), -Int.natCast_add]
    exact ih (l.length - (j + 1)) _ _ (by omega) ⟨j + 1, t3, rfl, by omega, by simp [s0], by simp, by simp, p2⟩
  · obtain rfl : j = l.length := by omega
    rw [List.take_length] at s3
    simp -implicitDefEqProofs [s0, s3, s4]

end Go.Proofs

/- Reading of codes, as lists: what is read of words; a text's bytes in words. -/
namespace Go.Proofs
open Go Go.RowKit Go.Am

/-- The byte at a place of words. -/
def wbyte (ws : List Nat) (j : Nat) : Nat := ws.getD (j / 8) 0 / 256 ^ (j % 8) % 256
theorem packed_lt (s : ByteArray) : ∀ w ∈ packed s, w < 18446744073709551616 := fun w hw => by
  obtain ⟨i, _, rfl⟩ := List.mem_map.1 hw
  exact num8_lt s _

/-! ### What is read -/
def backI (w : Nat) : Int := if w % 2 = 0 then ((w / 2 : Nat) : Int) else -((w / 2 : Nat) : Int) - 1
theorem backI_signed (x : Int) : backI (signed x) = x := by
  unfold backI signed
  split <;> split <;> omega
theorem backI_in {w : Nat} (h : w < 18446744073709551616) : -9223372036854775808 ≤ backI w ∧ backI w ≤ 9223372036854775807 := by
  unfold backI
  split <;> omega
theorem signed_lt {x : Int} (h1 : -9223372036854775808 ≤ x) (h2 : x ≤ 9223372036854775807) : signed x < 18446744073709551616 := by
  unfold signed
  split <;> omega

/-- What is read of words: a value, and what is left. -/
abbrev Rd (α : Type) := List Nat → Option (α × List Nat)
def rdCount (most : Int) : Rd Int
  | [] => none
  | w :: l => if 0 ≤ most ∧ (w : Int) ≤ most then some ((w : Int), l) else none
def rdSigned : Rd Int
  | [] => none
  | w :: l => some (backI w, l)
def rdFlag : Rd Bool := fun l => (rdCount 1 l).map fun p => (decide (p.1 = 1), p.2)
end Go.Proofs

/- The program's reader of codes. -/
namespace Go.Proofs
open Go Go.RowKit Go.Am

/-- A reader's state: the words that are left; none: it isn't right. -/
abbrev RS := Option (List Nat)
def encRS : RS → List AV
  | some l => [encW l, .bool false]
  | none => [.any1, .bool true]
def Bd (s : RS) : Prop := ∀ l, s = some l → l.length ≤ 1000000 ∧ ∀ w ∈ l, w < 18446744073709551616
structure RIs (h : H) (b : Nat) (s : RS) : Prop where
  blt : b < h.bn
  bx : h.bx b = some (encRS s)
  bd : Bd s
structure RTo (h : H) (b : Nat) (h' : H) (s' : RS) : Prop where
  keep : HF h h' (· = b) (fun _ => False)
  is : RIs h' b s'
/-- Where a piece of reading ends. -/
def RFin (h : H) (b : Nat) (h' : H) (s' : RS) : Prop := HF h h' (· = b) (fun _ => False) ∧ ∃ cs1, h'.bx b = some cs1 ∧ WkL cs1 (encRS s')
theorem RTo.fin {h h' : H} {b : Nat} {s' : RS} (a : RTo h b h' s') : RFin h b h' s' := ⟨a.keep, _, a.is.bx, WkL.refl _⟩
theorem RFin.bad {h h' : H} {b : Nat} {v : AV} (a : HF h h' (· = b) (fun _ => False)) (hb : h'.bx b = some [v, .bool true]) : RFin h b h' none := ⟨a, _, hb, .cons (.any v) (.cons (.refl _) .nil)⟩
theorem RFin.set {h h' : H} {b : Nat} {v : AV} (a : HF h h' (· = b) (fun _ => False)) : RFin h b (h'.set b [v, .bool true]) none := RFin.bad (v := v) (a.trans (HF.set _ rfl)) (by simp)
theorem RFin.ok {h h' : H} {b : Nat} {cs : List AV} {s : RS} (a : HF h h' (· = b) (fun _ => False)) (e : cs = encRS s) : RFin h b (h'.set b cs) s := by
  subst e
  exact ⟨a.trans (HF.set _ rfl), _, by simp, WkL.refl _⟩
theorem pure_encRS : ∀ (s : RS), ∀ v ∈ encRS s, PureV v
  | some l => pures_cons (pure_w64 l) (pures1 (.bool _))
  | none => pures_cons .any1 (pures1 (.bool _))
theorem RTo.trans {h h1 h2 : H} {b : Nat} {s1 s2 : RS} (a : RTo h b h1 s1) (c : RTo h1 b h2 s2) : RTo h b h2 s2 := ⟨a.keep.trans c.keep, c.is⟩
theorem RTo.refl {h : H} {b : Nat} {s : RS} (a : RIs h b s) : RTo h b h s := ⟨HF.refl _ _ _, a⟩
theorem RTo.set {h : H} {b : Nat} {s s' : RS} (a : RIs h b s) (hb : Bd s') : RTo h b (h.set b (encRS s')) s' := ⟨HF.set _ rfl, by simpa using a.blt, by simp, hb⟩
theorem RIs.alloc {h : H} {b : Nat} {s : RS} (a : RIs h b s) (cs : List AV) : RIs (h.alloc cs) b s := by
  have h1 := a.blt
  have hne : b ≠ h.bn := by omega
  exact ⟨by simp; omega, by simpa [hne] using a.bx, a.bd⟩
theorem RTo.alloc {h h' : H} {b : Nat} {s : RS} {cs : List AV} (a : RTo (h.alloc cs) b h' s) : RTo h b h' s := ⟨(HF.alloc h cs _ _).trans a.keep, a.is⟩
theorem RIs.keep {h h' : H} {b : Nat} {s : RS} (a : RIs h b s) {B T : Nat → Prop} (e : HF h h' B T) (hb : ¬ B b) : RIs h' b s :=
  ⟨Nat.lt_of_lt_of_le a.blt e.bn, (e.bx b a.blt hb).trans a.bx, a.bd⟩

/-- What a piece of reading made of a state. -/
def Got {α : Type} (p : Rd α) (s : RS) (a : α) (s' : RS) : Prop :=
  match s.bind p with
  | some (a', l') => a = a' ∧ s' = some l'
  | none => s' = none
def Rd.bind {α β : Type} (p : Rd α) (q : α → Rd β) : Rd β := fun l => (p l).bind fun x => q x.1 x.2
def Rd.pure {α : Type} (a : α) : Rd α := fun l => some (a, l)
theorem Got.bind {α β : Type} {p : Rd α} {q : α → Rd β} {s s1 s2 : RS} {a : α} {b : β} (h1 : Got p s a s1) (h2 : Got (q a) s1 b s2) : Got (p.bind q) s b s2 := by
  unfold Got at h1 h2 ⊢
  cases s with
  | none => simp only [Option.bind_none] at h1 ⊢; subst h1; simpa using h2
  | some l =>
    simp only [Option.bind_some, Rd.bind] at h1 ⊢
    cases hp : p l with
    | none => rw [hp] at h1; simp only at h1; subst h1; simpa using h2
    | some x => rw [hp] at h1; simp only at h1; obtain ⟨rfl, rfl⟩ := h1; simpa using h2
theorem Got.pure {α : Type} (a : α) (s : RS) : Got (Rd.pure a) s a s := by cases s <;> simp [Got, Rd.pure]
theorem Got.map {α β : Type} {p : Rd α} {f : α → β} {s s1 : RS} {a : α} (h1 : Got p s a s1) : Got (fun l => (p l).map fun x => (f x.1, x.2)) s (f a) s1 := by
  unfold Got at h1 ⊢
  cases s with
  | none => simpa using h1
  | some l =>
    simp only [Option.bind_some] at h1 ⊢
    cases hp : p l with
    | none => rw [hp] at h1; simpa using h1
    | some x => rw [hp] at h1; obtain ⟨rfl, rfl⟩ := h1; simp
/-- A piece that is read; else d. -/
def runS {α : Type} (p : Rd α) (d : α) (s : RS) : α × RS := (s.bind p).elim (d, none) fun x => (x.1, some x.2)
theorem Got.runS {α : Type} (p : Rd α) (d : α) (s : RS) : Got p s (Proofs.runS p d s).1 (Proofs.runS p d s).2 := by
  unfold Got Proofs.runS
  cases s.bind p <;> simp

theorem newReader_ok (l : List Nat) (h : H) : SCall Try.prog 10 [encW l] h (.ptr h.bn 0) (h.alloc (encRS (some l))) := by
  refine SCall.new (CallP.run hb10 ok10 (by simp) ?_) (pure_encRS _)
  simp -implicitDefEqProofs
  exact ⟨HF.alloc _ _ _ _, WkL.refl _⟩

theorem RIs.new {l : List Nat} (hl : Bd (some l)) (h : H) : RIs (h.alloc (encRS (some l))) h.bn (some l) := ⟨by simp, by simp, hl⟩

def endS : RS → Bool
  | some [] => true
  | _ => false

theorem rEnd_ok {h : H} {b : Nat} {s : RS} (hr : RIs h b s) : SCall Try.prog 15 [.ptr b 0] h (.bool (endS s)) h := by
  refine SCall.ro (CallP.run hb15 ok15 (by simp) ?_) (.bool _)
  have h1 := hr.blt
  have h2 := hr.bx
  cases s with
  | none => simp -implicitDefEqProofs [h1, h2, encRS, endS]; exact HF.refl _ _ _
  | some l =>
    cases l with
    | nil => simp -implicitDefEqProofs [h1, h2, encRS, endS]; exact HF.refl _ _ _
    | cons w l =>
      have : ¬ (l.length : Int) + 1 = 0 := by omega
      simp -implicitDefEqProofs [h1, h2, encRS, endS, this]; exact HF.refl _ _ _

/-- A piece of reading: its value, and what is left; where it isn't right, d. -/
structure RdS {α : Type} (f : FuncId) (args : List AV) (h : H) (b : Nat) (s : RS) (p : Rd α) (d : α) (enc : α → AV) : Prop where
  call : SCall Try.prog f args h (enc (runS p d s).1) (h.set b (encRS (runS p d s).2))
  to : RTo h b (h.set b (encRS (runS p d s).2)) (runS p d s).2

/-- What is left is of what there was. -/
def RdOK {α : Type} (p : Rd α) : Prop := ∀ l a l', p l = some (a, l') → l'.length ≤ l.length ∧ ∀ w ∈ l', w ∈ l
theorem RdOK.bd {α : Type} {p : Rd α} (hp : RdOK p) (d : α) {s : RS} (hs : Bd s) : Bd (runS p d s).2 := fun l' e => by
  unfold runS at e
  cases s with
  | none => simp at e
  | some l =>
    cases hq : p l with
    | none => simp [hq] at e
    | some x =>
      simp [hq] at e; subst e
      obtain ⟨h1, h2⟩ := hs l rfl
      obtain ⟨h3, h4⟩ := hp l x.1 x.2 hq
      exact ⟨Nat.le_trans h3 h1, fun w hw => h2 w (h4 w hw)⟩
theorem RdOK.bind {α β : Type} {p : Rd α} {q : α → Rd β} (hp : RdOK p) (hq : ∀ a, RdOK (q a)) : RdOK (p.bind q) := fun l b l' e => by
  simp only [Rd.bind, Option.bind_eq_some_iff] at e
  obtain ⟨x, e1, e2⟩ := e
  obtain ⟨h1, h2⟩ := hp l x.1 x.2 e1
  obtain ⟨h3, h4⟩ := hq x.1 x.2 b l' e2
  exact ⟨Nat.le_trans h3 h1, fun w hw => h2 w (h4 w hw)⟩
theorem RdOK.pure {α : Type} (a : α) : RdOK (Rd.pure a) := fun l b l' e => by
  simp only [Rd.pure, Option.some.injEq, Prod.mk.injEq] at e
  rw [e.2]; exact ⟨Nat.le_refl _, fun w hw => hw⟩

theorem RdS.mk' {α : Type} {f : FuncId} {args : List AV} {h : H} {b : Nat} {s : RS} {p : Rd α} {d : α} {enc : α → AV} (hr : RIs h b s) (hp : RdOK p) (hv : ∀ a, PureV (enc a)) (hc : CallP Try.prog f args h fun r h1 => wk r = enc (runS p d s).1 ∧ RFin h b h1 (runS p d s).2) : RdS f args h b s p d enc :=
  ⟨SCall.upd hr.blt (hc.mono fun r h1 ⟨q1, q2, q3⟩ => ⟨q1, q2, q3⟩) (hv _) (pure_encRS _), RTo.set hr (hp.bd d hr.bd)⟩

def rdNext (p : Nat → Bool) : Rd Nat
  | [] => none
  | w :: l => if p w = true then some (w, l) else none
theorem rdNext_ok (p : Nat → Bool) : RdOK (rdNext p) := fun l a l' e => by
  cases l with
  | nil => simp [rdNext] at e
  | cons v l =>
    simp only [rdNext] at e
    split at e
    · cases e; exact ⟨by simp, fun w hw => List.mem_cons_of_mem _ hw⟩
    · cases e

theorem next_ok {h : H} {b : Nat} {s : RS} (hr : RIs h b s) {F : FuncId} {first caps : List AV} {p : Nat → Bool} (hw : first.map wk = first) (hw' : caps.map wk = caps) (hp : ∀ w : Nat, SCall Try.prog F (first ++ [.int .u64 w] ++ caps) h (.bool (p w)) h) :
    RdS 91 [.ptr b 0, .fn F first caps] h b s (rdNext p) 0 (fun n => .int .u64 n) := by
  refine RdS.mk' hr (rdNext_ok p) (fun _ => .int _ _) (CallP.run hb91 ok91 (by simp) ?_)
  have h1 := hr.blt
  have h2 := hr.bx
  cases s with
  | none =>
    simp -implicitDefEqProofs [h1, h2, runS, encRS]
    exact RFin.set (HF.refl _ _ _)
  | some l =>
    cases l with
    | nil =>
      simp -implicitDefEqProofs [h1, h2, runS, rdNext, encRS]
      exact RFin.set (HF.refl _ _ _)
    | cons w l =>
      have e0 : ¬ (l.length : Int) + 1 = 0 := by omega
      simp -implicitDefEqProofs [h1, h2, e0, w64, encRS]
      refine callQ_s (hp w) (by simp [hw, hw']) ?_
      cases hpw : p w
      · simp -implicitDefEqProofs [h1, h2, hpw, runS, rdNext, w64, encRS]
        exact RFin.set (HF.refl _ _ _)
      · have e1 : (0 : Int) ≤ (l.length : Int) + 1 := by omega
        have e2 : (1 : Int) ≤ (l.length : Int) + 1 := by omega
        simp -implicitDefEqProofs [h1, h2, hpw, runS, rdNext, w64, e2, bndOf, encRS]
        exact RFin.ok (HF.refl _ _ _) rfl

theorem runS_next {p : Nat → Bool} {α : Type} {q : Rd α} {d : α} {f : Nat → α} (hd : d = f 0) (hq : ∀ l, q l = (rdNext p l).map fun x => (f x.1, x.2)) (s : RS) : runS q d s = (f (runS (rdNext p) 0 s).1, (runS (rdNext p) 0 s).2) := by
  unfold runS
  cases s with
  | none => simp [hd]
  | some l =>
    simp only [Option.bind_some, hq]
    cases rdNext p l <;> simp [hd]
theorem rdCount_next (most : Int) (l : List Nat) : rdCount most l = (rdNext (fun w => decide (0 ≤ most ∧ (w : Int) ≤ most)) l).map fun x => ((x.1 : Int), x.2) := by
  cases l with
  | nil => rfl
  | cons w l => simp only [rdCount, rdNext, decide_eq_true_eq]; split <;> rfl
theorem rdSigned_next (l : List Nat) : rdSigned l = (rdNext (fun _ => true) l).map fun x => (backI x.1, x.2) := by
  cases l <;> rfl

theorem runS_next_lt {p : Nat → Bool} {s : RS} (h : Bd s) : (runS (rdNext p) 0 s).1 < 18446744073709551616 := by
  unfold runS
  cases s with
  | none => simp
  | some l =>
    cases l with
    | nil => simp [rdNext]
    | cons w l =>
      simp only [Option.bind_some, rdNext]
      split
      · exact (h _ rfl).2 w (List.mem_cons_self ..)
      · simp

theorem count1_ok {h : H} {c : Nat} {most : Int} (hc : c < h.bn) (hb : h.bx c = some [.int .i64 most]) (hm : inI most) (w : Nat) : SCall Try.prog 92 [.int .u64 w, .ptr c 0] h (.bool (decide (0 ≤ most ∧ (w : Int) ≤ most))) h := by
  refine SCall.ro (CallP.run hb92 ok92 (by simp) ?_) (.bool _)
  obtain ⟨m1, m2⟩ := hm
  by_cases h0 : 0 ≤ most
  · simp -implicitDefEqProofs [hc, hb, h0, wrap_u64 (x := most) (by omega) (by omega)]
    exact HF.refl _ _ _
  · simp -implicitDefEqProofs [hc, hb, h0]
    exact HF.refl _ _ _

theorem rdMap_ok {α β : Type} {p : Rd α} {q : Rd β} {f : α → β} (hp : RdOK p) (hq : ∀ l, q l = (p l).map fun x => (f x.1, x.2)) : RdOK q := fun l b l' e => by
  rw [hq, Option.map_eq_some_iff] at e
  obtain ⟨x, e1, e2⟩ := e
  cases e2
  exact hp l x.1 x.2 e1
theorem rdCount_ok (most : Int) : RdOK (rdCount most) := rdMap_ok (rdNext_ok _) (rdCount_next most)
theorem rdSigned_ok : RdOK rdSigned := rdMap_ok (rdNext_ok _) rdSigned_next
theorem rdFlag_ok : RdOK rdFlag := rdMap_ok (f := fun n : Int => decide (n = 1)) (rdCount_ok 1) fun _ => rfl
theorem rdCount_in {most : Int} (hm : inI most) (s : RS) : 0 ≤ (runS (rdCount most) 0 s).1 ∧ ((runS (rdCount most) 0 s).1 ≤ most ∨ (runS (rdCount most) 0 s).1 = 0) := by
  unfold runS
  cases s with
  | none => simp
  | some l =>
    cases l with
    | nil => simp [rdCount]
    | cons w l =>
      simp only [Option.bind_some, rdCount]
      split
      · simp only [Option.elim]; omega
      · simp

theorem count_rd {h : H} {b : Nat} {s : RS} (hr : RIs h b s) {most : Int} (hm : inI most) : RdS 35 [.ptr b 0, .int .i64 most] h b s (rdCount most) 0 (.int .i64) := by
  refine RdS.mk' hr (rdCount_ok most) (fun _ => .int _ _) (CallP.run hb35 ok35 (by simp) ?_)
  simp -implicitDefEqProofs
  have hn := next_ok (hr.alloc [.int .i64 most]) (F := 92) (first := []) (caps := [.ptr h.bn 0]) rfl (by simp) fun w => count1_ok (by simp) (by simp) hm w
  refine callQ_s hn.call (by simp) ?_
  have q := hn.to
  have hx := runS_next (p := fun w => decide (0 ≤ most ∧ (w : Int) ≤ most)) (q := rdCount most) (d := 0) (f := fun w => (w : Int)) rfl (rdCount_next most) s
  have hin := rdCount_in hm s
  obtain ⟨m1, m2⟩ := hm
  rw [hx] at hin ⊢
  simp only at hin ⊢
  generalize runS (rdNext fun w => decide (0 ≤ most ∧ (w : Int) ≤ most)) 0 s = x at q hin
  simp -implicitDefEqProofs [wrap_i64 (x := (x.1 : Int)) (by omega) (by omega)]
  exact q.alloc.fin

theorem signed1_ok (w : Nat) (h : H) : SCall Try.prog 141 [.int .u64 w] h (.bool true) h := by
  refine SCall.ro (CallP.run hb141 ok141 (by simp) ?_) (.bool _)
  simp -implicitDefEqProofs
  exact HF.refl _ _ _

theorem back_bits {w : Nat} (hw : w < 18446744073709551616) : IntKind.i64.wrap
        ((((IntKind.i64.wrap ((w : Int).fdiv (2 ^ shAmt IntKind.u64 1)) % 2 ^ IntKind.i64.bits).toNat ^^^
            (IntKind.i64.wrap
                  (-IntKind.i64.wrap (IntKind.u64.wrap ((w % 2 ^ IntKind.u64.bits &&& 1 % 2 ^ IntKind.u64.bits : Nat) : Int))) %
                2 ^ IntKind.i64.bits).toNat : Nat)) : Int) =
      backI w := by
  have e1 : (2 : Int) ^ shAmt IntKind.u64 1 = 2 := rfl
  have e3 : (2 : Int) ^ IntKind.i64.bits = 18446744073709551616 := rfl
  have e4 : (2 : Nat) ^ IntKind.u64.bits = 18446744073709551616 := rfl
  have wi : ∀ y : Int, IntKind.i64.wrap y = (if 9223372036854775808 ≤ y % 18446744073709551616 then y % 18446744073709551616 - 18446744073709551616 else y % 18446744073709551616) := fun y => by simp [IntKind.wrap, IntKind.bits, IntKind.signed]
  rw [e1, e3, e4, Nat.mod_eq_of_lt hw, show 1 % 18446744073709551616 = 1 from rfl, Nat.and_one_is_mod, Int.fdiv_eq_ediv_of_nonneg _ (by omega), wrap_i64 (x := (w : Int) / 2) (by omega) (by omega), wrap_u64 (by omega) (by omega), wrap_i64 (x := ((w % 2 : Nat) : Int)) (by omega) (by omega), wrap_i64 (x := -((w % 2 : Nat) : Int)) (by omega) (by omega)]
  have e5 : ((w : Int) / 2 % 18446744073709551616).toNat = w / 2 := by omega
  rw [e5]
  unfold backI
  rcases Nat.mod_two_eq_zero_or_one w with h | h
  · rw [h, if_pos rfl]
    have e6 : (-((0 : Nat) : Int) % 18446744073709551616).toNat = 0 := by decide
    rw [e6, Nat.xor_zero]
    exact wrap_i64 (by omega) (by omega)
  · rw [h, if_neg (by omega)]
    have e6 : (-((1 : Nat) : Int) % 18446744073709551616).toNat = 18446744073709551615 := by decide
    rw [e6, xor_ones _ (by omega), wi]
    split <;> omega

theorem signed_rd {h : H} {b : Nat} {s : RS} (hr : RIs h b s) : RdS 121 [.ptr b 0] h b s rdSigned 0 (.int .i64) := by
  refine RdS.mk' hr rdSigned_ok (fun _ => .int _ _) (CallP.run hb121 ok121 (by simp) ?_)
  simp -implicitDefEqProofs
  have hn := next_ok hr (F := 141) (first := []) (caps := []) rfl rfl fun w => signed1_ok w h
  refine callQ_s hn.call (by simp) ?_
  have q := hn.to
  have hx := runS_next (p := fun _ => true) (q := rdSigned) (d := 0) (f := backI) rfl rdSigned_next s
  have hlt := runS_next_lt (p := fun _ => true) hr.bd
  rw [hx]
  generalize runS (rdNext fun _ => true) 0 s = x at q hlt
  simp -implicitDefEqProofs
  exact ⟨back_bits hlt, q.fin⟩

theorem flag_rd {h : H} {b : Nat} {s : RS} (hr : RIs h b s) : RdS 37 [.ptr b 0] h b s rdFlag false .bool := by
  refine RdS.mk' hr rdFlag_ok (fun _ => .bool _) (CallP.run hb37 ok37 (by simp) ?_)
  simp -implicitDefEqProofs
  have hn := count_rd hr (most := 1) ⟨by omega, by omega⟩
  refine callQ_s hn.call (by simp) ?_
  have q := hn.to
  have hx : runS rdFlag false s = (decide ((runS (rdCount 1) 0 s).1 = 1), (runS (rdCount 1) 0 s).2) := by
    have key : ∀ o : Option (Int × List Nat), ((o.map fun p => (decide (p.1 = 1), p.2)).elim (false, none) fun x => (x.1, some x.2) : Bool × RS) = (decide ((o.elim (0, none) fun x => (x.1, some x.2) : Int × RS).1 = 1), (o.elim (0, none) fun x => (x.1, some x.2) : Int × RS).2) := fun o => by cases o <;> first | rfl | simp
    cases s with
    | none => rfl
    | some l => exact key _
  rw [hx]
  simp -implicitDefEqProofs
  exact q.fin

def wbytes (ws : List Nat) (j : Nat) : List Nat := (List.range j).map (wbyte ws)
@[simp] theorem wbytes_len (ws : List Nat) (j : Nat) : (wbytes ws j).length = j := by simp [wbytes]
end Go.Proofs

/- The document's reader of codes: gimmalref01.Read. -/
namespace Go.Proofs
open Go Go.RowKit Go.Am

/-- A value that says less. -/
def Wkr (r r' : AV) : Prop := ∀ (w : World) (g : G) (V : Value), Rep w g r V → Rep w g r' V
theorem Wkr.refl (r : AV) : Wkr r r := fun _ _ _ h => h
theorem Wkr.wk {r r' : AV} (h : wk r = r') : Wkr r r' := fun _ _ _ h' => h ▸ h'.wk
theorem Wkr.tup {l l' : List AV} (hl : l.length = l'.length) (h : ∀ (k : Nat) (v v' : AV), l[k]? = some v → l'[k]? = some v' → Wkr v v') : Wkr (.tup l) (.tup l') := fun w g V hr => by
  cases hr with
  | tup cs C hC q =>
    refine .tup l' C (hl ▸ hC) fun k hk => ?_
    exact h k _ _ (List.getElem?_eq_getElem (by omega)) (List.getElem?_eq_getElem hk) w g _ (q k (by omega))
theorem Wkr.agg {l l' : List AV} (h : WkL l l') : Wkr (.agg l) (.agg l') := fun w g V hr => by
  cases hr with
  | agg cs C hC q q2 =>
    refine .agg l' C (h.len ▸ hC) (fun k hk => ?_) fun k hk => ?_
    · obtain ⟨v1, e1, e2⟩ := h.get k _ (List.getElem?_eq_getElem hk)
      obtain ⟨hk', rfl⟩ := List.getElem?_eq_some_iff.1 e1
      exact (e2 (q2 k hk')).2 w g _ (q k hk')
    · obtain ⟨v1, e1, e2⟩ := h.get k _ (List.getElem?_eq_getElem hk)
      obtain ⟨hk', rfl⟩ := List.getElem?_eq_some_iff.1 e1
      exact (e2 (q2 k hk')).1
theorem Wkr.one {v : AV} (h : ok1 v = true) : Wkr v .any1 := fun _ _ V hv => .any1 V (ok1_one hv h)
structure ReadS (s : Slots) (h : H) (w : Nat) (l : List Nat) (kind most : Int) (cs : List AV) : Prop where
  s0 : s 0 = encW (w :: l)
  s1 : s 1 = .int .i64 kind
  s6 : s 6 = .ptr 0 0
  s9 : s 9 = .ptr 1 0
  s11 : s 11 = encW l
  bn : h.bn = 2
  b0 : h.bx 0 = some [.int .i64 0, .int .i64 0, .int .i64 0, .int .i64 0, .str ⟨#[]⟩, .sl .full []]
  b1 : h.bx 1 = some cs

theorem ReadS.app {s : Slots} {h h' : H} {w : Nat} {l : List Nat} {kind most : Int} {cs : List AV} {T : Nat → Prop} (a : ReadS s h w l kind most cs) (e : HF h h' (fun _ => False) T) (hb : h'.bn = h.bn) : ReadS s h' w l kind most cs :=
  ⟨a.s0, a.s1, a.s6, a.s9, a.s11, hb.trans a.bn, (e.bx 0 (by rw [a.bn]; omega) fun h => h).trans a.b0, (e.bx 1 (by rw [a.bn]; omega) fun h => h).trans a.b1⟩
end Go.Proofs

/- The statements CodesRead and CodesBack: what their functions hand back. -/
namespace Go.Proofs
open Go Go.RowKit Go.Am

structure RdX (f : FuncId) (args : List AV) (h : H) (b : Nat) (r : AV) (s' : RS) : Prop where
  call : SCall Try.prog f args h r (h.set b (encRS s'))
  to : RTo h b (h.set b (encRS s')) s'
theorem RdX.mk' {f : FuncId} {args : List AV} {h : H} {b : Nat} {s s' : RS} {r : AV} (hr : RIs h b s) (hb : Bd s') (hv : PureV r) (hc : CallP Try.prog f args h fun r1 h1 => wk r1 = r ∧ RFin h b h1 s') : RdX f args h b r s' :=
  ⟨SCall.upd hr.blt (hc.mono fun r1 h1 ⟨q1, q2, q3⟩ => ⟨q1, q2, q3⟩) hv (pure_encRS _), RTo.set hr hb⟩

end Go.Proofs

/- The statement CodesRead: what its function hands back. -/
namespace Go.Proofs
open Go Go.RowKit Go.Am

theorem RIs.setO {h : H} {b b' : Nat} {s : RS} {cs : List AV} (a : RIs h b s) (hn : ¬ b' = b) : RIs (h.set b' cs) b s :=
  ⟨by simpa using a.blt, by have : ¬ b = b' := fun e => hn e.symm
                            simpa [this] using a.bx, a.bd⟩

end Go.Proofs
