/- What the functions that the statement reaches do: their contracts; and what follows of it. -/
import Derived.Test.YtdcpendppalkgaaGreatSLintAdvice8
import Derived.Test.YtdcpendppalkgaaGreatK4
import Derived.Test.YtdcpendppalkgaaGreatCLintAdvice
import Derived.Test.YtdcpendppalkgaaGreatSLintAdvice5
import Derived.Test.YtdcpendppalkgaaGreatSLintAdvice7
/- The document's dependences of a history. -/
namespace Go.Proofs
open Go Go.RowKit Go.Am

def dep0 (l : List Nod) (i k : Nat) : Bool := decide (k < i) && (decide ((ndOf l i).saga = (ndOf l k).saga) || confl (ndOf l i) (ndOf l k))
/-- The rows that have been laid. -/
structure OfI (h0 : H) (l : List Nod) (n i : Nat) (h : H) : Prop where
  bn : h.bn = h0.bn + 1 + i
  bx : h.bx h0.bn = some (rowN n fun j => if j < i then .msl (h0.bn + 1 + j) 1 0 n else .sl .full [])
  cx : ∀ j, j < i → h.bx (h0.bn + 1 + j) = some (rowN n fun k => .bool (dep0 l j k))
  hf : HF h0 h (fun _ => False) (fun _ => False)

set_option maxHeartbeats 2000000 in
theorem of15_call (l : List Nod) (hl : l.length ≤ 100) (hs : ∀ a ∈ l, a.small) (h0 : H) : CallP Tryz.prog 102 [.sl .no (l.map encNod)] h0 fun r h1 => ∃ b c, Am.wk r = .msl b 1 0 l.length ∧ r = .msl b 1 0 l.length ∧ h0.bn ≤ b ∧ (∀ i, i < l.length → h0.bn ≤ c i) ∧ Rel h1 b c l.length (fw l.length (dep0 l)) ∧ HF h0 h1 (fun _ => False) (fun _ => False) := by
  refine CallP.run hb102 ok102 (by simp) ?_
  simp -implicitDefEqProofs []
  refine ⟨_, _, .mkbox 1 24 [.sl .full []] (.t 12) (.t 12) .i64 .i64 l.length (by simp) (by simp) (by omega) (by omega), ?_⟩
  rw [rowN_rep]
  simp -implicitDefEqProofs []
  refine run_loop (fun m S h => ∃ i : Nat, m = l.length - i ∧ i ≤ l.length ∧ S 0 = .sl .no (l.map encNod) ∧ S 3 = .int .i64 l.length ∧ S 4 = .msl h0.bn 1 0 l.length ∧ S 5 = .int .i64 i ∧ OfI h0 l l.length i h) ?_ l.length ?_
  rotate_left
  · refine ⟨0, rfl, Nat.zero_le _, by simp, by simp, by simp, by simp, ⟨by simp, by simp, fun j hj => by omega, HF.alloc _ _ _ _⟩⟩
  rintro m S h ⟨i, hm, hi, t0, t3, t4, t5, I⟩ ih
  by_cases hlt : i < l.length
  · have ii := idxOf_nat (k := .i64) hlt
    have bx := I.bx
    have hbn := I.bn
    have hp := rowN_put (n := l.length) (fun j => if j < i then AV.msl (h0.bn + 1 + j) 1 0 l.length else .sl .full []) hlt (.msl h.bn 1 0 l.length)
    have hp2 : (rowN l.length fun j => if j = i then AV.msl h.bn 1 0 l.length else if j < i then AV.msl (h0.bn + 1 + j) 1 0 l.length else .sl .full []) = rowN l.length fun j => if j < i + 1 then AV.msl (h0.bn + 1 + j) 1 0 l.length else .sl .full [] := rowN_congr fun j _ => by
      by_cases e : j = i
      · subst e; rw [if_pos rfl, if_pos (by omega), hbn]
      · rw [if_neg e]
        by_cases e2 : j < i
        · rw [if_pos e2, if_pos (by omega)]
        · rw [if_neg e2, if_neg (by omega)]
    have z : ¬ h0.bn = h.bn := by omega
    have lb : h0.bn < h.bn + 1 := by omega
    simp -implicitDefEqProofs [t3, t4, t5, hlt]
    refine ⟨_, _, .mkbox 1 1 [.bool false] (.t 21) (.t 21) .i64 .i64 l.length (by simp) (by simp) (by omega) (by omega), ?_⟩
    rw [rowN_rep]
    simp -implicitDefEqProofs [hlt, bx, z, lb, show i + 1 ≤ l.length from hlt]
    rw [hp, hp2]
    refine run_loop (fun m S h' => ∃ k : Nat, m = i - k ∧ k ≤ i ∧ S 0 = .sl .no (l.map encNod) ∧ S 3 = .int .i64 l.length ∧ S 4 = .msl h0.bn 1 0 l.length ∧ S 5 = .int .i64 i ∧ S 6 = .int .i64 k ∧ h'.bn = h0.bn + 1 + (i + 1) ∧ h'.bx h0.bn = some (rowN l.length fun j => if j < i + 1 then .msl (h0.bn + 1 + j) 1 0 l.length else .sl .full []) ∧ (∀ j, j < i → h'.bx (h0.bn + 1 + j) = some (rowN l.length fun k => .bool (dep0 l j k))) ∧ h'.bx (h0.bn + 1 + i) = some (rowN l.length fun q => .bool (decide (q < k) && dep0 l i q)) ∧ HF h0 h' (fun _ => False) (fun _ => False)) ?_ i ?_
    rotate_left
    · refine ⟨0, rfl, Nat.zero_le _, by simp [t0], by simp [t3], by simp [t4], by simp [t5], by simp, by simp [hbn]; omega, by simp, fun j hj => ?_, ?_, ?_⟩
      · have := I.cx j hj
        simp only [set_bx, alloc_bx]
        rw [if_neg (by omega), if_neg (by omega), this]
      · simp only [set_bx, alloc_bx]
        rw [if_neg (by omega), if_pos (by omega)]
        exact congrArg some (rowN_congr fun k _ => by simp)
      · exact (I.hf.trans (HF.alloc _ _ _ _)).trans' (HF.set (B := (· = h0.bn)) _ rfl) (fun x hx e => by have e : x = h0.bn := e; omega) (fun _ _ h => h)
    clear t0 t3 t4 t5 I hp hp2 z lb bx hbn
    rintro m S h ⟨k, hm, hk, t0, t3, t4, t5, t6, hbn, bx, cx, ci, hf⟩ ih2
    by_cases hlk : k < i
    · have hkl : k < l.length := by omega
      have ik := idxOf_nat (k := .i64) hkl
      have ab := rowN_at (n := l.length) (fun j => if j < i + 1 then AV.msl (h0.bn + 1 + j) 1 0 l.length else .sl .full []) hlt
      rw [if_pos (by omega)] at ab
      have l0 : h0.bn < h.bn := by omega
      have l1 : h0.bn + 1 + i < h.bn := by omega
      have hge : i + 1 ≤ l.length := hlt
      have hge2 : k + 1 ≤ l.length := hkl
      have na : ndOf l i = l[i] := ndOf_of hlt
      have nb : ndOf l k = l[k] := ndOf_of hkl
      have hput : ∀ v : Bool, v = dep0 l i k → List.take k (rowN l.length fun q => AV.bool (decide (q < k) && dep0 l i q)) ++ AV.bool v :: List.drop (k + 1) (rowN l.length fun q => AV.bool (decide (q < k) && dep0 l i q)) = rowN l.length fun q => AV.bool (decide (q < k + 1) && dep0 l i q) := fun v hv => by
        rw [rowN_put _ hkl]
        refine rowN_congr fun q _ => ?_
        by_cases e : q = k
        · subst e
          rw [if_pos rfl, hv, decide_eq_true (by omega : q < q + 1), Bool.true_and]
        · rw [if_neg e, show decide (q < k + 1) = decide (q < k) by rw [decide_eq_decide]; omega]
      have hfin : ∀ (S' : Slots), S' 0 = .sl .no (l.map encNod) → S' 3 = .int .i64 l.length → S' 4 = .msl h0.bn 1 0 l.length → S' 5 = .int .i64 i → S' 6 = .int .i64 (k + 1 : Nat) → ∀ (h' : H), h' = h.set (h0.bn + 1 + i) (rowN l.length fun q => AV.bool (decide (q < k + 1) && dep0 l i q)) → ∃ k' : Nat, i - (k + 1) = i - k' ∧ k' ≤ i ∧ S' 0 = .sl .no (l.map encNod) ∧ S' 3 = .int .i64 l.length ∧ S' 4 = .msl h0.bn 1 0 l.length ∧ S' 5 = .int .i64 i ∧ S' 6 = .int .i64 k' ∧ h'.bn = h0.bn + 1 + (i + 1) ∧ h'.bx h0.bn = some (rowN l.length fun j => if j < i + 1 then .msl (h0.bn + 1 + j) 1 0 l.length else .sl .full []) ∧ (∀ j, j < i → h'.bx (h0.bn + 1 + j) = some (rowN l.length fun k => .bool (dep0 l j k))) ∧ h'.bx (h0.bn + 1 + i) = some (rowN l.length fun q => .bool (decide (q < k') && dep0 l i q)) ∧ HF h0 h' (fun _ => False) (fun _ => False) := fun S' q0 q3 q4 q5 q6 h' e => by
        subst e
        refine ⟨k + 1, rfl, by omega, q0, q3, q4, q5, q6, by simpa using hbn, ?_, fun j hj => ?_, by simp, ?_⟩
        · simp only [set_bx]; rw [if_neg (by omega), bx]
        · simp only [set_bx]; rw [if_neg (by omega), cx j hj]
        · exact hf.trans' (HF.set (B := (· = h0.bn + 1 + i)) _ rfl) (fun x hx e => by have e : x = h0.bn + 1 + i := e; omega) (fun _ _ h => h)
      simp -implicitDefEqProofs [t5, t6, hlk]
      refine run_dreg c102_d9 ?_
      by_cases hsg : l[i].saga = l[k].saga
      · have hd : true = dep0 l i k := by simp [dep0, hlk, na, nb, hsg]
        simp -implicitDefEqProofs [t0, t4, t5, t6, bx, l0, l1, ab, ci, hlt, hkl, hge, hge2, encNod, hsg, inc_i64 hlk (by omega), -Int.natCast_add]
        rw [hput true hd]
        exact ih2 (i - (k + 1)) _ _ (by omega) (hfin _ (by simp [t0]) (by simp [t3]) (by simp [t4]) (by simp [t5]) (by simp) _ rfl)
      · have hd : confl l[i] l[k] = dep0 l i k := by simp [dep0, hlk, na, nb, hsg]
        simp -implicitDefEqProofs [t0, t4, t5, t6, bx, l0, ab, hlt, hkl, hge, encNod, hsg]
        refine lcallQ_p (refConflict_ok l[i] l[k] (hs _ (List.getElem_mem hlt)) (hs _ (List.getElem_mem hkl))) (by simp [encNod]) ?_
        simp -implicitDefEqProofs [t6, bx, l0, l1, ab, ci, hkl, hge, hge2, inc_i64 hlk (by omega), -Int.natCast_add]
        rw [hput _ hd]
        exact ih2 (i - (k + 1)) _ _ (by omega) (hfin _ (by simp [t0]) (by simp [t3]) (by simp [t4]) (by simp [t5]) (by simp) _ rfl)
    · obtain rfl : k = i := by omega
      simp -implicitDefEqProofs [t5, t6, inc_i64 hlt (by omega), -Int.natCast_add]
      refine ih (l.length - (k + 1)) _ _ (by omega) ⟨k + 1, rfl, by omega, by simp [t0], by simp [t3], by simp [t4], by simp, ⟨hbn, bx, fun j hj => ?_, hf⟩⟩
      by_cases e : j = k
      · subst e
        rw [ci]
        exact congrArg some (rowN_congr fun q _ => by
          by_cases hq : q < j
          · simp [hq]
          · simp [dep0, hq])
      · exact cx j (by omega)
  · obtain rfl : i = l.length := by omega
    have hbn := I.bn
    have R : Rel h h0.bn (fun j => h0.bn + 1 + j) l.length (dep0 l) := by
      refine ⟨by omega, ?_, fun j hj => by omega, fun j hj => by omega, fun a b ha hb hab => by omega, I.cx⟩
      rw [I.bx]
      exact congrArg some (rowN_congr fun j hj => by rw [if_pos hj])
    have hf := I.hf
    clear ih
    simp -implicitDefEqProofs [t3, t5]
    refine fwOf_run hl R (by simp [t3]) (by simp [t4]) (by simp) fun S' h' s3 s4 _ R' hf' hb' => ?_
    simp -implicitDefEqProofs [s4]
    exact ⟨fun j => h0.bn + 1 + j, fun i _ => (by show h0.bn ≤ h0.bn + 1 + i; omega), R', hf.trans' hf' (fun x hx e => by obtain ⟨i, _, e⟩ := e; omega) (fun _ _ h => h)⟩
end Go.Proofs

/- The code of the document's arcs: an array of 50000 cells is laid as one list; so the code is read in parts. -/
namespace Go.Proofs
open Go Go.RowKit Go.Am

def isFalseV : Value → Bool
  | .bool false => true
  | _ => false
def chkF : List Value → Nat → Bool
  | [], n => Nat.beq n 0
  | v :: l, n => match isFalseV v with
    | true => match n with
      | n + 1 => chkF l n
      | 0 => false
    | false => false
theorem chkF_rep : ∀ (l : List Value) (n : Nat), chkF l n = true → l = List.replicate n (.bool false)
  | [], n, h => by
    have : n = 0 := Nat.eq_of_beq_eq_true h
    subst this
    rfl
  | v :: l, n, h => by
    unfold chkF at h
    cases hv : isFalseV v with
    | false => rw [hv] at h; cases h
    | true =>
      rw [hv] at h
      cases n with
      | zero => cases h
      | succ n =>
        have hv : v = .bool false := by
          unfold isFalseV at hv
          split at hv
          · rfl
          · cases hv
        rw [hv, chkF_rep l n h]
        rfl
theorem absAll_rep : ∀ n : Nat, absAll (List.replicate n (Value.bool false)) = some (List.replicate n (AV.bool false))
  | 0 => rfl
  | n + 1 => by
    rw [List.replicate_succ, absAll, absAll_rep n]
    rfl
def cellsZ : Option Value → List Value
  | some (.agg a) => a.toList
  | _ => []
theorem big_rep : cellsZ Tryz.t141.zero = List.replicate 50000 (.bool false) := chkF_rep _ 50000 (by kernel_rfl)
theorem big_zero : (Tryz.prog.info? 141).bind (·.zero) = some (.agg (cellsZ Tryz.t141.zero).toArray) := by kernel_rfl
theorem big_zeroT : zeroT Tryz.prog 141 = some (List.replicate 50000 (.bool false)) := by
  unfold zeroT
  rw [big_zero, big_rep, Option.bind_some]
  unfold absC
  simp only [absAll_rep, Option.map_some]
  rfl

def codeZ : Option Code → Code
  | some c => c
  | none => .skip
def sqL : Code → Code
  | .seq a _ => a
  | c => c
def sqR : Code → Code
  | .seq _ b => b
  | c => c
def opsZ : Code → Array Oper
  | .region _ ops _ => ops
  | _ => #[]
def idZ : Code → Nat
  | .region k _ _ => k
  | _ => 0
theorem cFn_of {P : Program} {f : FuncId} {fn : Func} {c : Code} {ir : IR} {ras : List ResA} (h1 : P.funcs[f]? = some fn) (h2 : fn.body = some c) (h3 : cCode P fn.ntmps c = some ir) (h4 : cRes P fn.ntmps fn.results.toList = some ras) : cFn P f = some ⟨fn.ntmps, ir, ras⟩ := by
  unfold cFn
  rw [h1, Option.bind_some, h2, Option.bind_some, h3, Option.bind_some, h4, Option.map_some]
theorem cCode_seq {P : Program} {N : Nat} {c a b : Code} {x y : IR} (hc : c = .seq a b) (ha : cCode P N a = some x) (hb : cCode P N b = some y) : cCode P N c = some (.seq x y) := by
  rw [hc, cCode, ha, Option.bind_some, hb, Option.map_some]
theorem cCode_alloc {P : Program} {N k d : Nat} {c : Code} {ops : Array Oper} {o : Oper} {t : TypeId} {z : List AV} (hc : c = .region k ops false) (hl : ops.toList = [o]) (ho : o.op = .alloc t) (hg : o.guard = none) (hd : o.dst = some d) (hN : d < N) (hz : zeroT P t = some z) : cCode P N c = some (.reg [⟨some d, none, .alloc z⟩]) := by
  rw [hc, cCode, hl]
  have e : cOp1 P N o = some (.alloc z) := by
    unfold cOp1
    rw [ho]
    simp only [hz, Option.map_some]
  have e2 : cIns P N ops o = some ⟨some d, none, .alloc z⟩ := by
    unfold cIns
    rw [hg, hd, e]
    simp [dstOk, hN]
  simp only [cInsL, e2, Option.bind_some, Option.map_some]
  rfl
theorem arcs_fn : cFn Tryz.prog 82 = some F82 := by
  refine cFn_of (fn := Tryz.f82) (c := codeZ Tryz.f82.body) Tryz.func82 (by kernel_rfl) ?_ (by kernel_rfl)
  refine cCode_seq (a := sqL (codeZ Tryz.f82.body)) (b := sqR (codeZ Tryz.f82.body)) (by kernel_rfl) (by kernel_rfl) ?_
  refine cCode_seq (a := sqL (sqR (codeZ Tryz.f82.body))) (b := sqR (sqR (codeZ Tryz.f82.body))) (by kernel_rfl) (by kernel_rfl) ?_
  refine cCode_seq (a := sqL (sqR (sqR (codeZ Tryz.f82.body)))) (b := sqR (sqR (sqR (codeZ Tryz.f82.body)))) (by kernel_rfl) (by kernel_rfl) ?_
  refine cCode_seq (a := sqL (sqR (sqR (sqR (codeZ Tryz.f82.body))))) (b := sqR (sqR (sqR (sqR (codeZ Tryz.f82.body))))) (by kernel_rfl) ?_ (by kernel_rfl)
  exact cCode_alloc (k := idZ (sqL (sqR (sqR (sqR (codeZ Tryz.f82.body)))))) (ops := opsZ (sqL (sqR (sqR (sqR (codeZ Tryz.f82.body)))))) (o := (opsZ (sqL (sqR (sqR (sqR (codeZ Tryz.f82.body)))))).toList.headD default) (by kernel_rfl) (by kernel_rfl) (by kernel_rfl) (by kernel_rfl) (by kernel_rfl) (by decide) big_zeroT
end Go.Proofs

/- The steps of a class, over which one ranges; which classes there may be: the program's answer. -/
namespace Go.Proofs
open Go Go.RowKit Go.Am

theorem each_ok (c : Cls) (h : H) : SCall Tryz.prog 48 [.agg (encCls c)] h (.fn 69 [] [.ptr h.bn 0]) (h.alloc (encCls c)) := by
  refine SCall.newG (fun b => .fn 69 [] [.ptr b 0]) (fun _ _ _ _ _ _ _ h1 h2 => Low.fn1 (Low.ptr h1 h2)) (CallP.run hb48 ok48 (by simp) ?_) (pure_encCls c)
  simp -implicitDefEqProofs [encCls]
  exact ⟨HF.alloc _ _ _ _, WkL.refl _⟩

/-- One round after the other, as long as one goes on. -/
theorem each1_ok (c : Cls) (hl : c.comps.length = c.steps.length) (hm : c.steps.length ≤ 9223372036854775807) {l b : Nat} {h : H} (I : Nat → H → Prop) (J : H → Prop) (hI : ∀ k h', I k h' → b < h'.bn ∧ h'.bx b = some (encCls c)) (hJ : ∀ h', J h' → b < h'.bn ∧ h'.bx b = some (encCls c))
    (hr : ∀ k h' (h1 : k < c.steps.length) (h2 : k < c.comps.length), I k h' → ∃ r h'', SYld Tryz.prog l [.agg (encStp c.steps[k]), .agg (encStp c.comps[k])] h' (.bool r) h'' ∧ (r = true → I (k + 1) h'') ∧ (r = false → J h''))
    (h0 : I 0 h) : CallP Tryz.prog 69 [.yld l, .ptr b 0] h fun _ h1 => I c.steps.length h1 ∨ J h1 := by
  refine CallP.run hb69 ok69 (by simp) ?_
  obtain ⟨b1, b2⟩ := hI _ _ h0
  simp -implicitDefEqProofs [b1, b2, encCls, hl]
  refine run_loop (fun m s h1 => ∃ j : Nat, m = c.steps.length - j ∧ j ≤ c.steps.length ∧ s 0 = .yld l ∧ s 1 = .ptr b 0 ∧ s 10 = .int .i64 c.steps.length ∧ s 11 = .int .i64 j ∧ I j h1) ?_ c.steps.length ?_
  rotate_left
  · exact ⟨0, by simpa using h0⟩
  rintro m s h1 ⟨j, hn, hj, s0, s1, s10, s11, hi⟩ ih
  by_cases hlt : j < c.steps.length
  · have hlt2 : j < c.comps.length := by omega
    obtain ⟨b1, b2⟩ := hI _ _ hi
    rw [encCls] at b2
    simp -implicitDefEqProofs [s10, s11, hlt]
    refine run_dreg c69_d4 ?_
    simp -implicitDefEqProofs [s0, s1, b1, b2, hlt, hlt2, encStp]
    obtain ⟨r, h2, q1, q2, q3⟩ := hr j h1 hlt hlt2 hi
    refine callD_y q1 (by simp [encStp]) ?_
    cases r
    · obtain ⟨b3, b4⟩ := hJ _ (q3 rfl)
      rw [encCls] at b4
      simp -implicitDefEqProofs [b1, b2, b3, b4]
      exact Or.inr (q3 rfl)
    · obtain ⟨b3, b4⟩ := hI _ _ (q2 rfl)
      rw [encCls] at b4
      simp -implicitDefEqProofs [b1, b2, b3, b4, s11, inc_i64 hlt hm, -Int.natCast_add]
      exact ih (c.steps.length - (j + 1)) _ _ (by omega) ⟨j + 1, rfl, by omega, by simp [s0], by simp [s1], by simp [s10], by simp, q2 rfl⟩
  · obtain rfl : j = c.steps.length := by omega
    simp -implicitDefEqProofs [s10, s11]
    exact Or.inl hi
end Go.Proofs

/- Which classes there may be: the program's answer. -/
namespace Go.Proofs
open Go Go.RowKit Go.Am

theorem stepMay_parts (a : Int) (s u : Stp) : stepMay a (s, u) = (progMay s.code a && footMay s.foot a && compMay u a) := by
  rw [comp_back, stepMay]
  cases progMay s.code a <;> cases footMay s.foot a <;> cases footMay u.foot a <;> cases backMay u a <;> rfl

set_option maxHeartbeats 1000000 in
theorem classMay_ok (c : Cls) (hc : c.wf) : PCall Tryz.prog 30 [.agg (encCls c)] (.bool (clsMay c)) := by
  refine PCall.run hb30 ok30 (by simp) (pures1 (.agg (pure_encCls c))) (.bool _) ?_
  obtain ⟨hwn, hwa, ⟨hsl, hsw⟩, hcl, hcw⟩ := hc
  by_cases bad : (((((((c.name.size : Int) < 1 ∨ (16 : Int) < (c.name.size : Int)) ∨ c.args < 0) ∨ 3 < c.args) ∨ (c.steps.length : Int) < 1) ∨ (4 : Int) < (c.steps.length : Int)) ∨ ¬ c.comps.length = c.steps.length)
  · have hf : clsMay c = false := by
      simp only [clsMay, Bool.and_eq_false_iff, Bool.not_eq_false', decide_eq_true_eq, decide_eq_false_iff_not]
      omega
    simp (maxSteps := 2000000) +contextual -implicitDefEqProofs [↓gdL_T, ↓gdL_F, ↓condQ_b, -Int.not_lt, -Int.not_le, -Nat.not_lt, -Nat.not_le, hf, encCls, H.nil]
    all_goals (intros; omega)
  have hm : clsMay c = (c.steps.zip c.comps).all (stepMay c.args) := by
    simp only [clsMay, show ¬ c.name.size < 1 by omega, show ¬ 16 < c.name.size by omega, show ¬ c.args < 0 by omega, show ¬ 3 < c.args by omega, show ¬ c.steps.length < 1 by omega, show ¬ 4 < c.steps.length by omega, show c.comps.length = c.steps.length by omega]
    simp
  have hcs : c.comps.length = c.steps.length := by omega
  have e1 : ¬ (c.name.size : Int) < 1 := by omega
  have e2 : ¬ (16 : Int) < (c.name.size : Int) := by omega
  have e3 : ¬ c.args < 0 := by omega
  have e4 : ¬ 3 < c.args := by omega
  have e5 : ¬ (c.steps.length : Int) < 1 := by omega
  have e6 : ¬ (4 : Int) < (c.steps.length : Int) := by omega
  simp -implicitDefEqProofs [encCls, H.nil, e1, e2, e3, e4, e5, e6, hcs]
  refine callQ_s (each_ok c _) (by simp [encCls]) ?_
  simp -implicitDefEqProofs []
  generalize hS : (su _ 45 _ : Slots) = S
  have s1 : S 1 = .ptr 0 0 := by rw [← hS]; simp
  have s2 : S 2 = .ptr 1 0 := by rw [← hS]; simp
  have s45 : S 45 = .fn 69 [] [.ptr 2 0] := by rw [← hS]; simp
  clear hS
  have hzl : (c.steps.zip c.comps).length = c.steps.length := by simp [hcs]
  let q0 : LoopA := ⟨S, [46, 47], c30_x10, c30_y11, .ready, none⟩
  let qE : LoopA := ⟨S, [46, 47], c30_x10, c30_y11, .done, some .ret⟩
  let I : Nat → H → Prop := fun k h1 => 0 < h1.ln ∧ h1.lp 0 = some q0 ∧ 3 ≤ h1.bn ∧ h1.bx 0 = some (encCls c) ∧ h1.bx 1 = some [.bool false] ∧ h1.bx 2 = some (encCls c) ∧ ∀ i (hi : i < (c.steps.zip c.comps).length), i < k → stepMay c.args (c.steps.zip c.comps)[i] = true
  let J : H → Prop := fun h1 => 0 < h1.ln ∧ h1.lp 0 = some qE ∧ 3 ≤ h1.bn ∧ h1.bx 1 = some [.bool false] ∧ h1.bx 2 = some (encCls c) ∧ (c.steps.zip c.comps).all (stepMay c.args) = false
  refine .rngf (Z := fun _ h1 => I c.steps.length h1 ∨ J h1) (F := 69) (first := []) (caps := [.ptr 2 0]) rfl (by simpa using s45) (each1_ok c hcs hsl I J (fun k h' ⟨_, _, q1, _, _, q2, _⟩ => ⟨by omega, q2⟩) (fun h' ⟨_, _, q1, _, q2, _⟩ => ⟨by omega, q2⟩) ?_ ?_) ?_ ?_
  · rintro k h' k1 k2 ⟨j1, j2, j3, j4, j5, j6, j7⟩
    have hws := hsw _ (List.getElem_mem k1)
    have hwc := hcw _ (List.getElem_mem k2)
    have hp1 := hws.1.1
    have hp2 := hws.2.1
    have hlz : k < (c.steps.zip c.comps).length := by omega
    have j4' := j4
    rw [encCls] at j4
    have b1 : 0 < h'.bn := by omega
    have hbad : stepMay c.args (c.steps[k], c.comps[k]) = false → Run Tryz.prog true [.c c30_x10, .beg 0, .c c30_y11] (roundQ 0 fun r1 h1 => r1 = .bool false ∧ h1.lp 0 = some qE ∧ HF h' (h1.setLoop 0 (some q0)) (fun _ => False) (fun _ => False)) (slotsP S [46, 47] [.agg (encStp c.steps[k]), .agg (encStp c.comps[k])]) h' → ∃ r h'', SYld Tryz.prog 0 [.agg (encStp c.steps[k]), .agg (encStp c.comps[k])] h' (.bool r) h'' ∧ (r = true → I (k + 1) h'') ∧ (r = false → J h'') := fun hn hrun => by
      refine ⟨false, _, SYld.ro (q := q0) (q' := qE) j1 j2 rfl rfl (.bool _) hrun, (fun h => by cases h), fun _ => ⟨by simpa using j1, by simp, by simpa using j3, by simpa using j5, by simpa using j6, ?_⟩⟩
      exact all_take_false hlz (by rw [List.getElem_zip]; exact hn)
    have hgood : stepMay c.args (c.steps[k], c.comps[k]) = true → Run Tryz.prog true [.c c30_x10, .beg 0, .c c30_y11] (roundQ 0 fun r1 h1 => r1 = .bool true ∧ h1.lp 0 = some q0 ∧ HF h' (h1.setLoop 0 (some q0)) (fun _ => False) (fun _ => False)) (slotsP S [46, 47] [.agg (encStp c.steps[k]), .agg (encStp c.comps[k])]) h' → ∃ r h'', SYld Tryz.prog 0 [.agg (encStp c.steps[k]), .agg (encStp c.comps[k])] h' (.bool r) h'' ∧ (r = true → I (k + 1) h'') ∧ (r = false → J h'') := fun hn hrun => by
      refine ⟨true, _, SYld.ro (q := q0) (q' := q0) j1 j2 rfl rfl (.bool _) hrun, fun _ => ⟨by simpa using j1, by simp, by simpa using j3, by simpa using j4', by simpa using j5, by simpa using j6, fun i hi hij => ?_⟩, fun h => by cases h⟩
      by_cases h : i = k
      · subst h; rw [List.getElem_zip]; exact hn
      · exact j7 i hi (by omega)
    rw [stepMay_parts] at hbad hgood
    have z0 : ¬ 0 = h'.bn := by omega
    have z1 : ¬ 0 = h'.bn + 1 := by omega
    have z2 : ¬ 1 = h'.bn := by omega
    have z3 : ¬ 1 = h'.bn + 1 := by omega
    have z4 : ¬ h'.bn = 0 := by omega
    have b2 : 1 < h'.bn := by omega
    have c0 : 0 < h'.bn + 1 + 1 := by omega
    have c1 : 1 < h'.bn + 1 + 1 := by omega
    cases hp : progMay c.steps[k].code c.args
    · refine hbad (by simp [hp]) ?_
      simp -implicitDefEqProofs [slotsP, s1, j1, j2, j4, z0, z4, c0, q0, encStp]
      refine callQ_p (progMay_ok c.steps[k].code c.args hp1) (by simp) ?_
      simp -implicitDefEqProofs [slotsP, s2, j1, j5, z2, z4, c1, q0, roundQ, encStp, hp]
      refine ⟨rfl, by simp; omega, fun b hb hn => ?_, by simp, by simp, by simp, fun l hl => ?_, by simp, by simp⟩
      · by_cases h1 : b = 1
        · subst h1; simp [j5]
        · simp [show ¬ b = h'.bn by omega, show ¬ b = h'.bn + 1 by omega, h1]
      · by_cases h0 : l = 0
        · subst h0; simp [j2, q0]
        · simp [h0]
    cases hq : footMay c.steps[k].foot c.args
    · refine hbad (by simp [hp, hq]) ?_
      simp -implicitDefEqProofs [slotsP, s1, j1, j2, j4, z0, z4, c0, q0, encStp]
      refine callQ_p (progMay_ok c.steps[k].code c.args hp1) (by simp) ?_
      simp -implicitDefEqProofs [slotsP, s1, j4, z0, z4, c0, encStp, hp]
      refine callQ_p (footMay_ok c.steps[k].foot c.args hp2) (by simp) ?_
      simp -implicitDefEqProofs [slotsP, s2, j1, j5, z2, z4, c1, q0, roundQ, encStp, hq]
      refine ⟨rfl, by simp; omega, fun b hb hn => ?_, by simp, by simp, by simp, fun l hl => ?_, by simp, by simp⟩
      · by_cases h1 : b = 1
        · subst h1; simp [j5]
        · simp [show ¬ b = h'.bn by omega, show ¬ b = h'.bn + 1 by omega, h1]
      · by_cases h0 : l = 0
        · subst h0; simp [j2, q0]
        · simp [h0]
    cases hr : compMay c.comps[k] c.args
    · refine hbad (by simp [hp, hq, hr]) ?_
      simp -implicitDefEqProofs [slotsP, s1, j1, j2, j4, z0, z4, c0, q0, encStp]
      refine callQ_p (progMay_ok c.steps[k].code c.args hp1) (by simp) ?_
      simp -implicitDefEqProofs [slotsP, s1, j4, z0, z4, c0, encStp, hp]
      refine callQ_p (footMay_ok c.steps[k].foot c.args hp2) (by simp) ?_
      simp -implicitDefEqProofs [slotsP, s1, j4, z0, z4, c0, encStp, hq]
      refine callQ_p (mayComp_ok c.comps[k] c.args hwc) (by simp [encStp]) ?_
      simp -implicitDefEqProofs [slotsP, s2, j1, j5, z2, z4, c1, q0, roundQ, encStp, hr]
      refine ⟨rfl, by simp; omega, fun b hb hn => ?_, by simp, by simp, by simp, fun l hl => ?_, by simp, by simp⟩
      · by_cases h1 : b = 1
        · subst h1; simp [j5]
        · simp [show ¬ b = h'.bn by omega, show ¬ b = h'.bn + 1 by omega, h1]
      · by_cases h0 : l = 0
        · subst h0; simp [j2, q0]
        · simp [h0]
    · refine hgood (by simp [hp, hq, hr]) ?_
      simp -implicitDefEqProofs [slotsP, s1, j1, j2, j4, z0, z4, c0, q0, encStp]
      refine callQ_p (progMay_ok c.steps[k].code c.args hp1) (by simp) ?_
      simp -implicitDefEqProofs [slotsP, s1, j4, z0, z4, c0, encStp, hp]
      refine callQ_p (footMay_ok c.steps[k].foot c.args hp2) (by simp) ?_
      simp -implicitDefEqProofs [slotsP, s1, j4, z0, z4, c0, encStp, hq]
      refine callQ_p (mayComp_ok c.comps[k] c.args hwc) (by simp [encStp]) ?_
      simp -implicitDefEqProofs [slotsP, j1, q0, roundQ, encStp, hr]
      refine ⟨by simp; omega, fun b hb hn => ?_, by simp, by simp, by simp, fun l hl => ?_, by simp, by simp⟩
      · by_cases h1 : b = 1
        · subst h1; simp [j5, z2, z4]
        · simp [show ¬ b = h'.bn by omega, show ¬ b = h'.bn + 1 by omega]
      · by_cases h0 : l = 0
        · subst h0; simp [j2, q0]
        · simp [h0]
  · exact ⟨by simp, by simp [q0], by simp, by simp [encCls], by simp, by simp [encCls], fun i hi hij => absurd hij (by omega)⟩
  · rintro v h2 (⟨j1, j2, _⟩ | ⟨j1, j2, _⟩)
    · exact ⟨j1, _, j2, by simp [q0]⟩
    · exact ⟨j1, _, j2, by simp [qE]⟩
  · rintro v h2 q (⟨j1, j2, j3, j4, j5, j6, j7⟩ | ⟨j1, j2, j3, j5, j6, j7⟩) hq
    · have hw := all_whole (p := stepMay c.args) (l := c.steps.zip c.comps) (j := c.steps.length) (by omega) j7
      replace hq : h2.lp 0 = some q := hq
      rw [j2] at hq
      cases hq
      simp -implicitDefEqProofs [pendK, q0, s2, j5, show 1 < h2.bn by omega, hm, hw]
    · replace hq : h2.lp 0 = some q := hq
      rw [j2] at hq
      cases hq
      simp -implicitDefEqProofs [pendK, qE, s2, j5, show 1 < h2.bn by omega, hm, j7]
end Go.Proofs

/- Which catalogues there may be: the program's answer. -/
namespace Go.Proofs
open Go Go.RowKit Go.Am

theorem named1_ok (c d : Cls) {h : H} {b : Nat} (hb : b < h.bn) (hbx : h.bx b = some (encCls c)) : SCall Tryz.prog 61 [.agg (encCls d), .ptr b 0] h (.bool (decide (d.name = c.name))) h := by
  refine SCall.ro (CallP.run hb61 ok61 (by simp) ?_) (.bool _)
  rw [encCls] at hbx
  simp -implicitDefEqProofs [encCls, hbx, show ¬ b = h.bn by omega, show b < h.bn + 1 by omega]
  exact HF.alloc _ _ _ _

theorem names_any {x : Ctlg} {i : Nat} (hi : i < x.classes.length) : ((x.classes.take i).any fun d => decide (d.name = x.classes[i].name)) = !x.namesOK i := by
  rw [Bool.eq_iff_iff]
  simp only [List.any_eq_true, decide_eq_true_eq, Bool.not_eq_true', Ctlg.namesOK, List.all_eq_false, List.mem_range]
  constructor
  · rintro ⟨d, hd, he⟩
    obtain ⟨j, hj, rfl⟩ := List.mem_iff_getElem.1 hd
    rw [List.length_take] at hj
    refine ⟨j, by omega, ?_⟩
    rw [List.getElem_take] at he
    simp [Ctlg.nameAt_of hi, Ctlg.nameAt_of (show j < x.classes.length by omega), he]
  · rintro ⟨j, hj, he⟩
    have hl : j < x.classes.length := by omega
    refine ⟨x.classes[j], ?_, ?_⟩
    · exact List.mem_iff_getElem.2 ⟨j, by rw [List.length_take]; omega, by rw [List.getElem_take]⟩
    · simpa [Ctlg.nameAt_of hi, Ctlg.nameAt_of hl] using he

theorem named_ok (x : Ctlg) (hl : x.classes.length ≤ 9223372036854775807) (hw : ∀ y ∈ x.classes, y.wf) : PCall Tryz.prog 38 [.sl .no (x.classes.map encCls)] (.bool ((List.range x.classes.length).all fun i => x.clsOK i && x.namesOK i)) := by
  refine PCall.run hb38 ok38 (by simp) (pures1 (elOK_Cls.pureL x.classes)) (.bool _) ?_
  simp -implicitDefEqProofs []
  refine run_loop (fun n s h => ∃ j : Nat, n = x.classes.length - j ∧ j ≤ x.classes.length ∧ s 0 = .sl .no (x.classes.map encCls) ∧ s 5 = .sl .no (x.classes.map encCls) ∧ s 6 = .int .i64 x.classes.length ∧ s 7 = .int .i64 j ∧ ∀ i, i < j → (x.clsOK i && x.namesOK i) = true) ?_ x.classes.length ?_
  rotate_left
  · exact ⟨0, by simp⟩
  rintro n s h ⟨j, hn, hj, s0, s5, s6, s7, hall⟩ ih
  by_cases hlt : j < x.classes.length
  · have hno : (x.clsOK j && x.namesOK j) = false → ((List.range x.classes.length).all fun i => x.clsOK i && x.namesOK i) = false := allR_false (p := fun i => x.clsOK i && x.namesOK i) hlt
    have hjs : (j : Int) ≤ (x.classes.length : Int) := by omega
    simp -implicitDefEqProofs [s5, s6, s7, hlt, encCls]
    refine callQ_p (classMay_ok x.classes[j] (hw _ (List.getElem_mem hlt))) (by simp [encCls]) ?_
    cases hp : clsMay x.classes[j]
    · have := hno (by simp [Ctlg.clsOK_of hlt, hp])
      simp -implicitDefEqProofs [this]
    simp -implicitDefEqProofs [s0, hj]
    refine callQ_s (contains_gen hb60 ok60 hb84 ok84 elOK_Cls (x.classes.take j) (by rw [List.length_take]; omega) (first := []) (caps := [.ptr h.bn 0]) (p := fun d => decide (d.name = x.classes[j].name)) rfl (by simp) (fun d _ => named1_ok x.classes[j] d (by simp) (by simp [encCls]))) (by simp [List.map_take]) ?_
    have hna := names_any hlt
    cases hq : x.namesOK j
    · have := hno (by simp [hq])
      rw [hq] at hna
      simp -implicitDefEqProofs [hna, this]
    rw [hq] at hna
    simp -implicitDefEqProofs [hna, s7, inc_i64 hlt hl, -Int.natCast_add]
    exact ih (x.classes.length - (j + 1)) _ _ (by omega) ⟨j + 1, rfl, by omega, by simp [s0], by simp [s5], by simp [s6], by simp, fun i hij => by
      by_cases h : i = j
      · subst h; simp [Ctlg.clsOK_of hlt, hp, hq]
      · exact hall i (by omega)⟩
  · have hw : ((List.range x.classes.length).all fun i => x.clsOK i && x.namesOK i) = true := allR_true (by omega) hall
    simp -implicitDefEqProofs [s6, s7, hlt, hw]

theorem and_low (v : Int) {k : Nat} (hk : k ≤ 3) : IntKind.i64.wrap ((((v % 2 ^ IntKind.i64.bits).toNat &&& (((2 : Int) ^ k - 1) % 2 ^ IntKind.i64.bits).toNat : Nat)) : Int) = v % 2 ^ k := by
  have hb : IntKind.i64.bits = 64 := rfl
  have h4 : k = 0 ∨ k = 1 ∨ k = 2 ∨ k = 3 := by omega
  have e : (((2 : Int) ^ k - 1) % 2 ^ IntKind.i64.bits).toNat = 2 ^ k - 1 := by
    rcases h4 with rfl | rfl | rfl | rfl <;> decide
  rw [e, Nat.and_two_pow_sub_one_eq_mod, hb]
  rcases h4 with rfl | rfl | rfl | rfl <;> (rw [wrap_i64] <;> omega)

theorem catMay1_ok (x : Ctlg) (hb16 : x.breaks.length = 16) {h : H} {b c d : Nat} (hb : b < h.bn) (hbx : h.bx b = some (encCtlg x)) (hc : c < x.classes.length) (n4 : x.classes.length ≤ 4) (hd : d < x.classes.length) (hs : x.classes[c].small) : SCall Tryz.prog 40 [.int .i64 c, .int .i64 d, .ptr b 0] h (.int .i64 (mayT x c d)) h := by
  refine SCall.ro (CallP.run hb40 ok40 (by simp) ?_) (.int _ _)
  rw [encCtlg] at hbx
  have hbk := Ctlg.brk_load (x := x) (.sl .no (x.classes.map encCls)) hb16 (show c < 4 by omega) (show d < 4 by omega)
  simp -implicitDefEqProofs []
  refine run_dregL c40_d2 rfl ?_
  simp -implicitDefEqProofs [hb, hbx, hc, hbk, hb16, show (c : Int) < 4 by omega, show (d : Int) < 4 by omega, show 1 + c * 4 + d + 1 ≤ 16 + 1 by omega]
  refine callC_p (all_ok x.classes[c] hs) (by simp) ?_
  have hk : x.classes[c].steps.length - 1 ≤ 3 := by have := hs.2.1; omega
  have ha := and_low (x.brk c d) hk
  simp -implicitDefEqProofs [Cls.all, ha, mayT, Ctlg.stepsN_of hc]
  exact HF.refl _ _ _

theorem catMayP_ok (x : Ctlg) (hx : x.wf) : PCall Tryz.prog 22 [.agg (encCtlg x)] (.bool (catMay x)) := by
  refine PCall.run hb22 ok22 (by simp) (pures1 (.agg (pure_encCtlg x))) (.bool _) ?_
  have htk := x.take16 hx.2.1
  obtain ⟨⟨hcl, hcw⟩, hbl, hbw⟩ := hx
  by_cases c1 : (x.classes.length : Int) < 1
  · have hf : catMay x = false := by simp [catMay, show x.classes.length < 1 by omega]
    simp -implicitDefEqProofs [encCtlg, c1, hf]
  by_cases c4 : (4 : Int) < x.classes.length
  · have hf : catMay x = false := by simp [catMay, show 4 < x.classes.length by omega]
    simp -implicitDefEqProofs [encCtlg, c1, c4, hf]
  have n4 : x.classes.length ≤ 4 := by omega
  have hm : catMay x = (((List.range x.classes.length).all fun i => x.clsOK i && x.namesOK i) && (List.range 4).all fun c => (List.range 4).all (x.brkOK c)) := by
    simp only [catMay, show ¬ x.classes.length < 1 by omega, show ¬ 4 < x.classes.length by omega]
    simp
  rw [← may_turn n4 hbl] at hm
  simp -implicitDefEqProofs [encCtlg, c1, c4]
  refine callQ_p (named_ok x hcl hcw) (by simp) ?_
  cases hna : (List.range x.classes.length).all fun i => x.clsOK i && x.namesOK i
  · rw [hna] at hm
    simp -implicitDefEqProofs [hm]
  rw [hna] at hm
  have hsm : ∀ c (h : c < x.classes.length), x.classes[c].small := fun c h => by
    rw [List.all_eq_true] at hna
    have := hna c (List.mem_range.2 h)
    rw [Bool.and_eq_true, Ctlg.clsOK_of h] at this
    exact clsMay_small this.1
  simp -implicitDefEqProofs [H.nil]
  refine run_dreg c22_d5 ?_
  simp -implicitDefEqProofs [htk, hbl]
  refine callD_s (turned_ok x hbl n4 (first := []) (caps := [.ptr 0 0]) rfl (by simp) (mayT x) fun c d h' hc hd hf => catMay1_ok x hbl ?_ ?_ hc n4 hd (hsm c hc)) (by simp [encCtlg]) ?_
  · have := hf.bn
    simp at this
    omega
  · rw [hf.bx 0 (by simp) (fun h => h)]
    simp [encCtlg]
  have hl := turnL_len x.classes.length (mayT x) (x.classes.length * x.classes.length)
  have hce := cells_ints x.breaks (turnL x.classes.length (mayT x) (x.classes.length * x.classes.length)) (by rw [hbl, hl])
  rw [hbl] at hce
  simp only [List.replicate] at hce
  simp -implicitDefEqProofs [hce, hm, htk, hbl]
end Go.Proofs

/- Which histories there may be: the program's answer. -/
namespace Go.Proofs
open Go Go.RowKit Go.Am

def findE : List (Int × AV) → Int → Option AV
  | [], _ => none
  | (k, w) :: E, s => if s = k then some w else findE E s
structure MapI (E : List (Int × AV)) (T : Int → Tok) (pre : List Nod) (h : H) : Prop where
  fnd : ∀ s, (findE E s).getD (.sl .full []) = .sl (T s) ((ownOf pre s).map encNod)
  live : ∀ s, TLive h (T s) (ownOf pre s).length
  apart : ∀ s s', s ≠ s' → TApart (T s) (T s')
theorem MapI.keep {E : List (Int × AV)} {T : Int → Tok} {pre : List Nod} {h h' : H} (m : MapI E T pre h) (htn : h'.tn = h.tn) (htk : h'.tk = h.tk) : MapI E T pre h' :=
  ⟨m.fnd, fun s => by
    have := m.live s
    unfold TLive at this ⊢
    split at this
    · exact this
    · trivial
    · rw [htn, htk]; exact this, m.apart⟩
theorem MapI.start (h : H) : MapI [] (fun _ => .full) [] h := ⟨fun s => rfl, fun s => trivial, fun s s' _ i h => by cases h⟩
end Go.Proofs

/- Units of nodes: plain laws of histories that may be. -/
namespace Go.Proofs
open Go Go.RowKit Go.Am

def inP (x : Ctlg) (l : List Nod) (d : Int) (i k : Nat) (hi : i < l.length) (hk : k < l.length) : Bool :=
  decide (i = k) || (decide (l[i].saga = l[k].saga) && !l[i].back && !l[k].back && decide (x.unitN l[i].cls d l[i].step.toNat = x.unitN l[i].cls d l[k].step.toNat))

end Go.Proofs

/- A node's unit as a test of others; the first node of it. -/
namespace Go.Proofs
open Go Go.RowKit Go.Am

/-! ### The last node of it -/
end Go.Proofs

/- The last node of a unit. -/
namespace Go.Proofs
open Go Go.RowKit Go.Am

end Go.Proofs

/- Is a node in the unit of another one: the document's answer. -/
namespace Go.Proofs
open Go Go.RowKit Go.Am

set_option maxRecDepth 4000 in
theorem refIn_ok (x : Ctlg) (hx : x.wf) (l : List Nod) (hl : l.length ≤ 9223372036854775807) (hw : ∀ n ∈ l, n.wf) {i k : Nat} {d : Int} (hd : inI d) (hi : i < l.length) (hk : k < l.length) (hm : histMay x l = true) :
    PCall Tryz.prog 103 [.agg (encCtlg x), .sl .no (l.map encNod), .int .i64 i, .int .i64 k, .int .i64 d] (.bool (inP x l d i k hi hk)) := by
  refine PCall.run hb103 ok103 (by simp) (pures_cons (.agg (pure_encCtlg x)) (pures_cons (elOK_Nod.pureL l) (pures_cons (.int _ _) (pures_cons (.int _ _) (pures1 (.int _ _)))))) (.bool _) ?_
  have htk := x.take16 hx.2.1
  have hbl := hx.2.1
  have hcm : catMay x = true := by
    simp only [histMay, Bool.and_eq_true] at hm
    exact hm.1.1
  have hall : ∀ j, j < l.length → nodeAt x l j = true := fun j hj => by
    simp only [histMay, Bool.and_eq_true, List.all_eq_true, List.mem_range] at hm
    exact hm.2 j hj
  obtain ⟨hs, hg⟩ := catMay_small hx hcm
  have hwi := take_within hs l.length (Nat.le_refl _) hall
  rw [List.take_length] at hwi
  obtain ⟨u1, u2, u3⟩ := hwi _ (List.getElem_mem hi)
  obtain ⟨v1, v2, v3⟩ := hwi _ (List.getElem_mem hk)
  have w1 := (hw _ (List.getElem_mem hi)).2.1
  have u4 := small4 hs l[i].cls.toNat
  have v4 := small4 hs l[k].cls.toNat
  simp -implicitDefEqProofs [encCtlg, H.nil]
  refine run_two (fun j => 13 + j) (fun j => match j with | 1 => .int .i64 i | 2 => .rop (encNod l[i]) | 3 => .agg (encNod l[i]) | 5 => .int .i64 k | 6 => .rop (encNod l[k]) | 7 => .agg (encNod l[k]) | _ => .sl .no (l.map encNod)) 8 10 11 9 11 12 6
    (zA := [.int .i64 0, .int .i64 0, .int .i64 0, .bool false, .sl .full [], .sl .full []]) (cA := encNod l[i]) (zB := [.int .i64 0, .int .i64 0, .int .i64 0, .bool false, .sl .full [], .sl .full []]) (cB := encNod l[k]) (xA := .t 16) (xB := .t 20) rfl rfl rfl rfl (by decide) (by decide) (by decide) (by decide) (fun a b _ _ _ _ h => by omega) ?_ rfl rfl ?_ ?_ ?_ ?_
  · intro j hj hjn
    have : j < 12 := hj
    simp at hjn
    omega
  · intro a b done s1 h1 haft tw
    have h3 : s1 16 = _ := tw.li 3 (haft 3 (by decide)) (by decide) (by decide) (by decide) (by decide)
    show fit 6 (s1 16) = _
    rw [h3]
    simp [fit, encNod]
  · intro a b done s1 h1 haft tw
    have h3 : s1 20 = _ := tw.li 7 (haft 7 (by decide)) (by decide) (by decide) (by decide) (by decide)
    show fit 6 (s1 20) = _
    rw [h3]
    simp [fit, encNod]
  · intro j y a b done s1 h1 hy hni haft tw
    have t1 : s1 1 = .sl .no (l.map encNod) := by rw [tw.un 1 (by decide) (by decide) (fun i _ _ _ _ _ => by omega)]; simp
    have t2 : s1 2 = .int .i64 i := by rw [tw.un 2 (by decide) (by decide) (fun i _ _ _ _ _ => by omega)]; simp
    have t3 : s1 3 = .int .i64 k := by rw [tw.un 3 (by decide) (by decide) (fun i _ _ _ _ _ => by omega)]; simp
    have hj : j < 12 := (List.getElem?_eq_some_iff.1 hy).1
    have h8 : j = 0 ∨ j = 1 ∨ j = 2 ∨ j = 3 ∨ j = 4 ∨ j = 5 ∨ j = 6 ∨ j = 7 := by simp at hni; omega
    rcases h8 with rfl | rfl | rfl | rfl | rfl | rfl | rfl | rfl
    · cases hy
      exact ⟨rfl, rfl, .pure _ _ (by simp [t1])⟩
    · cases hy
      exact ⟨rfl, rfl, .pure _ _ (by simp [t2])⟩
    · cases hy
      have e1 : s1 13 = _ := tw.li 0 (haft 0 (by decide)) (by decide) (by decide) (by decide) (by decide)
      have e2 : s1 14 = _ := tw.li 1 (haft 1 (by decide)) (by decide) (by decide) (by decide) (by decide)
      exact ⟨rfl, rfl, .pure _ _ (by simp [e1, e2, hi, encNod])⟩
    · cases hy
      have e1 : s1 15 = _ := tw.li 2 (haft 2 (by decide)) (by decide) (by decide) (by decide) (by decide)
      exact ⟨rfl, rfl, .pure _ _ (by simp [e1, encNod])⟩
    · cases hy
      exact ⟨rfl, rfl, .pure _ _ (by simp [t1])⟩
    · cases hy
      exact ⟨rfl, rfl, .pure _ _ (by simp [t3])⟩
    · cases hy
      have e1 : s1 17 = _ := tw.li 4 (haft 4 (by decide)) (by decide) (by decide) (by decide) (by decide)
      have e2 : s1 18 = _ := tw.li 5 (haft 5 (by decide)) (by decide) (by decide) (by decide) (by decide)
      exact ⟨rfl, rfl, .pure _ _ (by simp [e1, e2, hk, encNod])⟩
    · cases hy
      have e1 : s1 19 = _ := tw.li 6 (haft 6 (by decide)) (by decide) (by decide) (by decide) (by decide)
      exact ⟨rfl, rfl, .pure _ _ (by simp [e1, encNod])⟩
  · intro a b s1 h1 hab sa sb ha hb ha0 hb0 hba hbb hf hs1
    have keep : ∀ y, y < 11 → s1 y = _ := fun y hy => hs1 y (by omega) (by omega) (fun i _ _ => by omega)
    have t2 : s1 2 = .int .i64 i := by rw [keep 2 (by decide)]; simp
    have t3 : s1 3 = .int .i64 k := by rw [keep 3 (by decide)]; simp
    have t4 : s1 4 = .int .i64 d := by rw [keep 4 (by decide)]; simp
    have t5 : s1 5 = .ptr 0 0 := by rw [keep 5 (by decide)]; simp
    have n0 : 0 < h1.bn := Nat.lt_of_lt_of_le (by simp) hf.bn
    have b0 : h1.bx 0 = some (.sl .no (x.classes.map encCls) :: x.breaks.map (AV.int .i64)) := by rw [hf.bx 0 (by simp) (fun h => h)]; simp
    clear hs1 keep hf
    rw [encNod] at hba hbb
    by_cases hik : i = k
    · simp -implicitDefEqProofs [t2, t3, hik, inP]
    simp -implicitDefEqProofs [t2, t3, hik]
    refine run_dregL c103_d5 rfl ?_
    by_cases hsg : l[i].saga = l[k].saga
    rotate_left
    · simp -implicitDefEqProofs [sa, sb, ha, hb, hba, hbb, hsg, inP, hik]
    cases h1b : l[i].back
    rotate_left
    · simp -implicitDefEqProofs [sa, sb, ha, hb, hba, hbb, hsg, h1b, inP, hik]
    cases h2b : l[k].back
    rotate_left
    · simp -implicitDefEqProofs [sa, sb, ha, hb, hba, hbb, hsg, h1b, h2b, inP, hik]
    obtain ⟨p, hp⟩ := Int.eq_ofNat_of_zero_le u2
    obtain ⟨q, hq⟩ := Int.eq_ofNat_of_zero_le v2
    rw [hp] at hba
    rw [hq] at hbb
    simp -implicitDefEqProofs [sa, sb, ha, hb, hba, hbb, hsg, h1b, h2b, t4, t5, n0, b0, htk, hbl]
    refine callC_p (refUnit_ok x hx hg.nn w1 hd (i := p) (by omega)) (by simp [encCtlg]) ?_
    simp -implicitDefEqProofs [sa, sb, ha, hb, hba, hbb, hsg, h1b, h2b, t4, t5, n0, b0, htk, hbl]
    refine callC_p (refUnit_ok x hx hg.nn w1 hd (i := q) (by omega)) (by simp [encCtlg]) ?_
    simp -implicitDefEqProofs [inP, hik, hsg, h1b, h2b, hp, hq]
end Go.Proofs
