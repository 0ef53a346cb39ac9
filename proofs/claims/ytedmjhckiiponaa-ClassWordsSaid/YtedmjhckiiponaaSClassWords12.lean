/- What the functions that the statement reaches do: their contracts; and what follows of it. -/
import Derived.Test.YtedmjhckiiponaaSClassWords7
import Derived.Test.YtedmjhckiiponaaSClassWords11
/- What is written of a class is read as that class: plain laws. -/
namespace Go.Proofs
open Go Go.RowKit Go.Am

theorem cut64_whole {s : ByteArray} (h : ¬ 64 < s.size) : cut64 s = s := by
  refine bytes_ext (by rw [cut64_size]; omega) fun j hj => ?_
  rw [cut64_size] at hj
  have h1 : s.data.size = s.size := rfl
  have h2 : min s.size 64 = s.size := by omega
  unfold byteAt cut64
  simp only [ByteArray.data_extract, Array.getElem?_extract, h1, h2]
  rw [if_pos (by omega)]
  simp
/-- These words, whatever follows, are read as this. -/
def Back {α : Type} (p : Rd α) (ws : List Nat) (a : α) : Prop := ∀ rest, p (ws ++ rest) = some (a, rest)
theorem Back.bind {α β : Type} {p : Rd α} {q : α → Rd β} {w1 w2 : List Nat} {a : α} {b : β} (h1 : Back p w1 a) (h2 : Back (q a) w2 b) : Back (p.bind q) (w1 ++ w2) b := fun rest => by
  rw [Rd.bind, List.append_assoc, h1]; exact h2 rest
theorem Back.pure {α : Type} (a : α) : Back (Rd.pure a) [] a := fun rest => rfl
theorem Back.last {α β : Type} {p : Rd α} {q : α → Rd β} {w1 : List Nat} {a : α} {b : β} (h1 : Back p w1 a) (h2 : Back (q a) [] b) : Back (p.bind q) w1 b := by
  have := h1.bind h2
  rwa [List.append_nil] at this
theorem Back.count {n most : Int} (h0 : 0 ≤ n) (h1 : n ≤ most) : Back (rdCount most) [n.toNat] n := fun rest => by
  have e : ((n.toNat : Nat) : Int) = n := by omega
  simp only [List.cons_append, List.nil_append, rdCount]
  rw [if_pos ⟨by omega, by omega⟩, e]
theorem Back.signed (x : Int) : Back rdSigned [Proofs.signed x] x := fun rest => by simp [rdSigned, backI_signed]
theorem Back.flag (r : Bool) : Back rdFlag [if r then 1 else 0] r := fun rest => by cases r <;> simp [rdFlag, rdCount]
theorem Back.text {s : ByteArray} (h : s.size ≤ 64) : Back rdText (textW s) s := fun rest => by rw [rdText_write, cut64_whole (by omega)]
theorem Back.rep {α : Type} {p : Rd α} {f : α → List Nat} {L : List α} (h : ∀ a ∈ L, Back p (f a) a) : Back (Rd.rep p L.length) (L.flatMap f) L := by
  have key : ∀ k, k ≤ L.length → Back (Rd.rep p k) ((L.take k).flatMap f) (L.take k) := fun k => by
    induction k with
    | zero => intro _; exact Back.pure _
    | succ k ih =>
      intro hk
      have hlt : k < L.length := by omega
      rw [flat_snoc f hlt, List.take_succ_eq_append_getElem hlt]
      exact (ih (by omega)).bind ((h _ (List.getElem_mem hlt)).last (Back.pure _))
  have := key L.length (Nat.le_refl _)
  rwa [List.take_length] at this

def keyOK (k : KeyT) : Prop := -1 ≤ k.arg ∧ k.arg ≤ 255 ∧ 0 ≤ k.base ∧ k.base ≤ 999
def instOK (x : Inst) : Prop := (0 ≤ x.op ∧ x.op ≤ 255) ∧ (0 ≤ x.a ∧ x.a ≤ 255) ∧ (0 ≤ x.b ∧ x.b ≤ 255) ∧ (0 ≤ x.c ∧ x.c ≤ 255) ∧ keyOK x.k ∧ keyOK x.l
def stpOK (s : Stp) : Prop := (s.code.length ≤ 8 ∧ ∀ x ∈ s.code, instOK x) ∧ s.foot.length ≤ 4 ∧ ∀ x ∈ s.foot, keyOK x.lo ∧ keyOK x.hi

theorem back_key {k : KeyT} (h : keyOK k) : Back rdKey [signed k.arg, k.base.toNat] k := by
  obtain ⟨h1, h2, h3, h4⟩ := h
  exact (Back.signed k.arg).bind (w2 := [k.base.toNat]) (by rw [if_neg (by omega)]; exact (Back.count h3 h4).last (Back.pure _))
theorem back_inst {x : Inst} (h : instOK x) : Back rdInst (writeAll (instItems x)) x := by
  obtain ⟨⟨a1, a2⟩, ⟨b1, b2⟩, ⟨c1, c2⟩, ⟨d1, d2⟩, hk, hl⟩ := h
  have e : writeAll (instItems x) = [x.op.toNat] ++ ([x.a.toNat] ++ ([x.b.toNat] ++ ([x.c.toNat] ++ ([signed x.k.arg, x.k.base.toNat] ++ ([signed x.l.arg, x.l.base.toNat] ++ [signed x.x]))))) := rfl
  rw [e]
  exact (Back.count a1 a2).bind ((Back.count b1 b2).bind ((Back.count c1 c2).bind ((Back.count d1 d2).bind ((back_key hk).bind ((back_key hl).bind ((Back.signed x.x).last (Back.pure _)))))))
theorem back_span {s : SpanT} (h : keyOK s.lo ∧ keyOK s.hi) : Back rdSpanT (writeAll (spanItems s)) s := by
  have e : writeAll (spanItems s) = [signed s.lo.arg, s.lo.base.toNat] ++ ([signed s.hi.arg, s.hi.base.toNat] ++ [if s.write then 1 else 0]) := by rw [w_span]; rfl
  rw [e]
  exact (back_key h.1).bind ((back_key h.2).bind ((Back.flag s.write).last (Back.pure _)))
theorem back_prog {l : List Inst} (h8 : l.length ≤ 8) (h : ∀ x ∈ l, instOK x) : Back rdProg (writeAll (progItems l)) l := by
  rw [progItems, writeAll_cons, w_iN, writeAll_flat]
  refine (Back.count (n := (l.length : Int)) (by omega) (by omega)).bind ?_
  rw [Int.toNat_natCast]
  exact Back.rep fun x hx => back_inst (h x hx)
theorem back_foot {l : List SpanT} (h4 : l.length ≤ 4) (h : ∀ x ∈ l, keyOK x.lo ∧ keyOK x.hi) : Back rdFoot (writeAll (footItems l)) l := by
  rw [footItems, writeAll_cons, w_iN, writeAll_flat]
  refine (Back.count (n := (l.length : Int)) (by omega) (by omega)).bind ?_
  rw [Int.toNat_natCast]
  exact Back.rep fun x hx => back_span (h x hx)
theorem back_stp {s : Stp} (h : stpOK s) : Back rdStp (writeAll (stpItems s)) s := by
  rw [stpItems, writeAll_app]
  exact (back_prog h.1.1 h.1.2).bind ((back_foot h.2.1 h.2.2).last (Back.pure _))
theorem back_pair {p : Stp × Stp} (h : stpOK p.1 ∧ stpOK p.2) : Back rdPair (writeAll (pairItems p)) p := by
  rw [pairItems, writeAll_app]
  exact (back_stp h.1).bind ((back_stp h.2).last (Back.pure _))

theorem key_ok {k : KeyT} {args : Int} (h3 : args ≤ 3) (h : mayKey k args = true) : keyOK k := by
  simp only [mayKey, Bool.and_eq_true, decide_eq_true_eq] at h
  simp only [keyOK]; omega
theorem none_ok {k : KeyT} (h : keyNone k = true) : keyOK k := by
  simp only [keyNone, decide_eq_true_eq] at h
  simp only [keyOK]; omega
theorem inst_okM {x : Inst} {args : Int} (h3 : args ≤ 3) (h : oneInst x args = true) : instOK x := by
  have hr : ∀ {n : Int}, isReg n = true → 0 ≤ n ∧ n ≤ 255 := fun {n} h => by
    simp only [isReg, Bool.and_eq_true, Bool.not_eq_true', decide_eq_false_iff_not] at h; omega
  have z : ∀ {n : Int}, n = 0 → 0 ≤ n ∧ n ≤ 255 := fun {n} h => by omega
  unfold oneInst at h
  by_cases o1 : x.op = 1 ∨ x.op = 2
  · rw [if_pos o1] at h
    simp only [Bool.and_eq_true, decide_eq_true_eq] at h
    obtain ⟨⟨⟨⟨⟨a1, a2⟩, a3⟩, a4⟩, a5⟩, a6⟩ := h
    exact ⟨by omega, hr a1, z a3, z a4, key_ok h3 a6, none_ok a5⟩
  by_cases o3 : x.op = 3
  · rw [if_neg o1, if_pos o3] at h
    simp only [Bool.and_eq_true, decide_eq_true_eq] at h
    obtain ⟨⟨⟨⟨⟨a1, a2⟩, a3⟩, a4⟩, a5⟩, a6⟩ := h
    exact ⟨by omega, z a1, z a3, z a4, key_ok h3 a6, none_ok a5⟩
  by_cases o4 : x.op = 4
  · rw [if_neg o1, if_neg o3, if_pos o4] at h
    simp only [Bool.and_eq_true, decide_eq_true_eq] at h
    obtain ⟨⟨⟨⟨⟨a1, a2⟩, a3⟩, a4⟩, a5⟩, a6⟩ := h
    exact ⟨by omega, hr a1, z a3, z a4, key_ok h3 a5, key_ok h3 a6⟩
  by_cases o5 : x.op = 5 ∨ x.op = 8
  · rw [if_neg o1, if_neg o3, if_neg o4, if_pos o5] at h
    simp only [Bool.and_eq_true, decide_eq_true_eq] at h
    obtain ⟨⟨⟨⟨a1, a2⟩, a3⟩, a4⟩, a5⟩ := h
    exact ⟨by omega, hr a1, z a2, z a3, none_ok a4, none_ok a5⟩
  by_cases o6 : x.op = 6 ∨ x.op = 7
  · rw [if_neg o1, if_neg o3, if_neg o4, if_neg o5, if_pos o6] at h
    simp only [Bool.and_eq_true, decide_eq_true_eq] at h
    obtain ⟨⟨⟨⟨⟨a1, a2⟩, a3⟩, a4⟩, a5⟩, a6⟩ := h
    exact ⟨by omega, hr a1, hr a3, hr a4, none_ok a5, none_ok a6⟩
  · rw [if_neg o1, if_neg o3, if_neg o4, if_neg o5, if_neg o6] at h
    cases h
theorem prog_okM {l : List Inst} {args : Int} (h : progMay l args = true) : l.length ≤ 8 ∧ ∀ x ∈ l, instOK x := by
  simp only [progMay, Bool.and_eq_true, Bool.not_eq_true', decide_eq_false_iff_not, List.all_eq_true] at h
  exact ⟨by omega, fun x hx => inst_okM (by omega) (h.2 x hx)⟩
theorem foot_okM {l : List SpanT} {args : Int} (h : footMay l args = true) : l.length ≤ 4 ∧ ∀ x ∈ l, keyOK x.lo ∧ keyOK x.hi := by
  simp only [footMay, Bool.and_eq_true, Bool.not_eq_true', decide_eq_false_iff_not, List.all_eq_true] at h
  exact ⟨by omega, fun x hx => ⟨key_ok (by omega) (h.2 x hx).1, key_ok (by omega) (h.2 x hx).2⟩⟩
theorem pair_okM {args : Int} {p : Stp × Stp} (h : stepMay args p = true) : stpOK p.1 ∧ stpOK p.2 := by
  simp only [stepMay, backMay, Bool.and_eq_true, Bool.or_eq_true, Bool.not_eq_true', decide_eq_false_iff_not] at h
  obtain ⟨⟨⟨h1, h2⟩, h3⟩, h4, _⟩ := h
  refine ⟨⟨prog_okM h1, foot_okM h2⟩, ?_, foot_okM h3⟩
  rcases h4 with h | h
  · have : p.2.code = [] := List.length_eq_zero_iff.1 (by omega)
    rw [this]; exact ⟨Nat.zero_le _, fun x hx => by cases hx⟩
  · exact prog_okM h

theorem zip_fst {α β : Type} : ∀ (a : List α) (b : List β), a.length = b.length → (a.zip b).map (·.1) = a ∧ (a.zip b).map (·.2) = b
  | [], [], _ => ⟨rfl, rfl⟩
  | x :: a, y :: b, h => by
    obtain ⟨h1, h2⟩ := zip_fst a b (by simpa using h)
    exact ⟨by simp [h1], by simp [h2]⟩
  | [], _ :: _, h => by simp at h
  | _ :: _, [], h => by simp at h
theorem back_cls {c : Cls} (h : clsMay c = true) : Back rdCls (writeAll (clsItems c)) c := by
  have h0 := h
  simp only [clsMay, Bool.and_eq_true, Bool.not_eq_true', decide_eq_false_iff_not, decide_eq_true_eq, List.all_eq_true] at h
  obtain ⟨⟨⟨⟨⟨⟨⟨n1, n2⟩, a1⟩, a2⟩, s1⟩, s2⟩, hcs⟩, hall⟩ := h
  have e : writeAll (clsItems c) = textW c.name ++ ([c.args.toNat] ++ ([(c.steps.length : Int).toNat] ++ (((c.steps.zip c.comps).flatMap fun p => writeAll (pairItems p)) ++ [if c.resume then 1 else 0]))) := by
    have e1 : clsItems c = [iS c.name, iN c.args 3, iN c.steps.length 4] ++ (c.steps.zip c.comps).flatMap pairItems ++ [iF c.resume] := rfl
    rw [e1, writeAll_app, writeAll_app, writeAll_flat]
    simp [writeAll, w_iS, w_iN, w_iF]
  rw [e]
  have hz : (c.steps.zip c.comps).length = c.steps.length := by simp [hcs]
  obtain ⟨z1, z2⟩ := zip_fst c.steps c.comps hcs.symm
  refine (Back.text (by omega)).bind ((Back.count (by omega) (by omega)).bind ((Back.count (n := (c.steps.length : Int)) (by omega) (by omega)).bind ?_))
  have hrep : Back (Rd.rep rdPair (c.steps.length : Int).toNat) ((c.steps.zip c.comps).flatMap fun p => writeAll (pairItems p)) (c.steps.zip c.comps) := by
    rw [Int.toNat_natCast, ← hz]
    exact Back.rep fun p hp => back_pair (pair_okM (hall p hp))
  refine hrep.bind ((Back.flag c.resume).last ?_)
  rw [z1, z2]
  exact Back.pure _
end Go.Proofs

/- The document's reader: items, templates, programs, footprints. -/
namespace Go.Proofs
open Go Go.RowKit Go.Am

def item00 : Item := ⟨0, 0, 0, 0, ⟨#[]⟩, []⟩
theorem item_rd {h : H} {b : Nat} {s : RS} (hr : RIs h b s) (kind : Int) {most : Int} (hm : inI most) : RdX 86 [.ptr b 0, .int .i64 kind, .int .i64 most] h b (.agg (encI (runS (refRead kind most) item00 s).1)) (runS (refRead kind most) item00 s).2 := by
  have hbd : Bd (runS (refRead kind most) item00 s).2 := by
    intro l' e
    cases s with
    | none => cases e
    | some l =>
      cases hq : refRead kind most l with
      | none => simp [runS, hq] at e
      | some x =>
        simp [runS, hq] at e
        subst e
        exact (refRead_bd hr.bd hq).1 _ rfl
  refine RdX.mk' hr hbd (.agg (pure_encI _)) (CallP.run hb86 ok86 (by simp) ?_)
  have hb := hr.blt
  have hx := hr.bx
  have z0 : ¬ b = h.bn := by omega
  have z1 : ¬ h.bn = b := by omega
  have z2 : b < h.bn + 1 := by omega
  have z3 : b < h.bn + 1 + 1 := by omega
  have z4 : ¬ b = h.bn + 1 := by omega
  have z5 : ¬ h.bn + 1 = b := by omega
  cases s with
  | none =>
    rw [encRS] at hx
    simp -implicitDefEqProofs [hx, z0, z2, runS, encI, item00]
    refine ⟨?_, _, ?_, WkL.refl _⟩
    · exact (HF.alloc _ _ _ _).trans' (HF.set (B := (· = h.bn)) _ rfl) (fun x hx e => by have e : x = h.bn := e; omega) (fun _ _ h => h)
    · simp [z0, hx, encRS]
  | some l =>
    rw [encRS] at hx
    simp -implicitDefEqProofs [hx, z0, z2]
    refine callQ_p (refRead_ok hr.bd kind hm) (by simp) ?_
    cases hq : refRead kind most l with
    | none =>
      simp -implicitDefEqProofs [encRead, hx, z0, z1, z3, z4, runS, encI, item00, hq]
      refine RFin.so (RFin.bad (v := encW l) ?_ (by simp)) (Nat.le_refl _) hb _
      refine HF.trans ?_ (HF.set (B := (· = b)) _ rfl)
      exact ((HF.alloc _ _ _ _).trans (HF.alloc _ _ _ _)).trans' (HF.set (B := (· = h.bn + 1)) _ rfl) (fun x hx e => by have e : x = h.bn + 1 := e; omega) (fun _ _ h => h)
    | some x =>
      obtain ⟨y, l'⟩ := x
      simp -implicitDefEqProofs [encRead, hx, z0, z1, z3, z4, z5, runS, encI, hq]
      refine RFin.so (RFin.ok ?_ (by simp [encRS])) (Nat.le_refl _) hb _
      exact ((HF.alloc _ _ _ _).trans (HF.alloc _ _ _ _)).trans' (HF.set (B := (· = h.bn + 1)) _ rfl) (fun x hx e => by have e : x = h.bn + 1 := e; omega) (fun _ _ h => h)

theorem runS_map {α β : Type} {p : Rd α} {q : Rd β} {d : α} {d' : β} {f : α → β} (g : β → α) (hd : g d' = d) (hg : ∀ a, g (f a) = a) (hq : ∀ l, q l = (p l).map fun x => (f x.1, x.2)) (s : RS) : g (runS q d' s).1 = (runS p d s).1 ∧ (runS q d' s).2 = (runS p d s).2 := by
  unfold runS
  cases s with
  | none => exact ⟨hd, rfl⟩
  | some l =>
    simp only [Option.bind_some, hq]
    cases p l with
    | none => exact ⟨hd, rfl⟩
    | some x => exact ⟨hg _, rfl⟩
theorem item_count (most : Int) (s : RS) : (runS (refRead 0 most) item00 s).1.n = (runS (rdCount most) 0 s).1 ∧ (runS (refRead 0 most) item00 s).2 = (runS (rdCount most) 0 s).2 :=
  runS_map (f := fun n => (⟨0, n, most, 0, ⟨#[]⟩, []⟩ : Item)) (·.n) rfl (fun _ => rfl) (fun l => by simp [refRead]) s
theorem item_signed (s : RS) : (runS (refRead 1 0) item00 s).1.x = (runS rdSigned 0 s).1 ∧ (runS (refRead 1 0) item00 s).2 = (runS rdSigned 0 s).2 :=
  runS_map (f := fun n => (⟨1, 0, 0, n, ⟨#[]⟩, []⟩ : Item)) (·.x) rfl (fun _ => rfl) (fun l => by simp [refRead]) s
theorem item_flag (s : RS) : decide ((runS (refRead 2 0) item00 s).1.n = 1) = (runS rdFlag false s).1 ∧ (runS (refRead 2 0) item00 s).2 = (runS rdFlag false s).2 := by
  have h := runS_map (p := rdCount 1) (q := refRead 2 0) (d := 0) (d' := item00) (f := fun n => (⟨2, n, 0, 0, ⟨#[]⟩, []⟩ : Item)) (·.n) rfl (fun _ => rfl) (fun l => by simp [refRead]) s
  have h1 : (runS (refRead 2 0) item00 s).1.n = (runS (rdCount 1) 0 s).1 := h.1
  have h2 : ((runS rdFlag false s).1 = true ↔ (runS (rdCount 1) 0 s).1 = 1) ∧ (runS rdFlag false s).2 = (runS (rdCount 1) 0 s).2 := by
    unfold runS rdFlag
    cases s with
    | none => simp
    | some l =>
      simp only [Option.bind_some]
      cases hq : rdCount 1 l <;> simp
  refine ⟨?_, h.2.trans h2.2.symm⟩
  rw [Bool.eq_iff_iff, decide_eq_true_eq, h1]
  exact h2.1.symm
theorem item_text (s : RS) : (runS (refRead 3 0) item00 s).1.s = (runS rdText ⟨#[]⟩ s).1 ∧ (runS (refRead 3 0) item00 s).2 = (runS rdText ⟨#[]⟩ s).2 := by
  have h := runS_map (p := rdTextW) (q := refRead 3 0) (d := (⟨#[]⟩, [])) (d' := item00) (f := fun n => (⟨3, 0, 0, 0, n.1, n.2⟩ : Item)) (fun y => (y.s, y.l)) rfl (fun _ => rfl) (fun l => by simp [refRead]) s
  have h1 : (runS (refRead 3 0) item00 s).1.s = (runS rdTextW (⟨#[]⟩, []) s).1.1 := congrArg Prod.fst h.1
  rw [h1, h.2]
  unfold runS
  cases s with
  | none => exact ⟨rfl, rfl⟩
  | some l =>
    simp only [Option.bind_some, rdText_W]
    cases rdTextW l with
    | none => exact ⟨rfl, rfl⟩
    | some x => exact ⟨rfl, rfl⟩

/-- An item's call: what is taken of it, as a piece of reading. -/
theorem callQ_item {α : Type} {h : H} {b : Nat} {s : RS} {kind most : Int} {K : AV → H → Prop} (p : Rd α) (d : α) (g : Item → α) {first caps args : List AV} (hm : inI most) (hr : RIs h b s)
    (hg : g (runS (refRead kind most) item00 s).1 = (runS p d s).1 ∧ (runS (refRead kind most) item00 s).2 = (runS p d s).2) (ha : (first ++ args ++ caps).map wk = [.ptr b 0, .int .i64 kind, .int .i64 most])
    (hk : ∀ (y : Item) (s' : RS), g y = (runS p d s).1 → s' = (runS p d s).2 → RTo h b (h.set b (encRS s')) s' → Got p s (g y) s' → K (.agg (encI y)) (h.set b (encRS s'))) : callQ Try.prog (.fn 86 first caps) args h K := by
  have hx := item_rd hr kind hm
  refine callQ_s hx.call ha (hk _ _ hg.1 hg.2 hx.to ?_)
  have := Got.runS p d s
  rw [← hg.1, ← hg.2] at this
  exact this
end Go.Proofs

/- The document's reader: templates, programs, footprints. -/
namespace Go.Proofs
open Go Go.RowKit Go.Am

theorem store_bad {s : RS} : List.take 1 (encRS s) ++ AV.bool true :: List.drop 2 (encRS s) = [(encRS s)[0]'(by cases s <;> simp [encRS]), .bool true] := by cases s <;> rfl

theorem refKey_rd {h : H} {b : Nat} {s : RS} (hr : RIs h b s) : RdQ 124 [.ptr b 0] h b s rdKey (fun k => .agg (encKeyT k)) := by
  refine RdQ.mk' hr (fun k => .agg (pures_cons (.int _ _) (pures1 (.int _ _)))) (CallP.run hb124 ok124 (by simp) ?_)
  have hb := hr.blt
  have z : ¬ b = h.bn := by omega
  have z' : ¬ h.bn = b := by omega
  have z2 : b < h.bn + 1 := by omega
  simp -implicitDefEqProofs []
  refine callQ_item rdSigned 0 (·.x) (by simp [inI]) (hr.alloc _) (item_signed s) (by simp) fun y1 s1 e1 _ q1 g1 => ?_
  simp -implicitDefEqProofs [encI]
  refine callQ_item (rdCount 999) 0 (·.n) (by simp [inI]) q1.is (item_count 999 s1) (by simp) fun y2 s2 e2 _ q2 g2 => ?_
  have k2 := (RTo.al (RTo.refl hr) [.int .i64 0, .int .i64 0]).trans (q1.trans q2)
  by_cases h1 : y1.x < -1 ∨ 255 < y1.x
  · by_cases h2 : y1.x < -1
    focus
      simp -implicitDefEqProofs [encI, h2, z', z2]
    rotate_left
    focus
      have h3 : 255 < y1.x := h1.resolve_left h2
      simp -implicitDefEqProofs [encI, h2, h3, z', z2]
    all_goals
      cases s2 with
      | none =>
        simp -implicitDefEqProofs [encRS]
        refine ⟨⟨y1.x, y2.n⟩, rfl, none, RFin.so (RFin.bad (v := .any1) ((k2.keep).trans (HF.set _ rfl)) (by simp)) (Nat.le_refl _) hb _, (fun l h => by cases h), ?_⟩
        exact g1.bind (by rw [if_pos h1]; exact Got.fail _ _)
      | some l =>
        simp -implicitDefEqProofs [encRS]
        refine ⟨⟨y1.x, y2.n⟩, rfl, none, RFin.so (RFin.bad (v := encW l) ((k2.keep).trans (HF.set _ rfl)) (by simp)) (Nat.le_refl _) hb _, (fun l h => by cases h), ?_⟩
        exact g1.bind (by rw [if_pos h1]; exact Got.fail _ _)
  have h2 : ¬ y1.x < -1 := fun h => h1 (.inl h)
  have h3 : ¬ 255 < y1.x := fun h => h1 (.inr h)
  simp -implicitDefEqProofs [encI, h2, h3, z']
  refine ⟨⟨y1.x, y2.n⟩, rfl, s2, (k2.so (Nat.le_refl _) hb _).fin, k2.is.bd, ?_⟩
  exact g1.bind (by rw [if_neg h1]; exact g2.bind (Got.pure _ _))
end Go.Proofs

/- The document's reader of programs and footprints, whole. -/
namespace Go.Proofs
open Go Go.RowKit Go.Am

theorem item_bad {h : H} {b : Nat} {v : AV} (hb : b < h.bn) (hx : h.bx b = some [v, .bool true]) (kind most : Int) : SCall Try.prog 86 [.ptr b 0, .int .i64 kind, .int .i64 most] h (.agg (encI item00)) h := by
  refine SCall.ro (CallP.run hb86 ok86 (by simp) ?_) (.agg (pure_encI _))
  have z0 : ¬ b = h.bn := by omega
  have z2 : b < h.bn + 1 := by omega
  simp -implicitDefEqProofs [hx, z0, z2, encI, item00]
  exact (HF.alloc _ _ _ _).trans' (HF.set (B := (· = h.bn)) _ rfl) (fun x hx e => by have e : x = h.bn := e; omega) (fun _ _ h => h)
theorem callQ_ib {h : H} {b : Nat} {v : AV} {kind most : Int} {K : AV → H → Prop} {first caps args : List AV} (hb : b < h.bn) (hx : h.bx b = some [v, .bool true]) (ha : (first ++ args ++ caps).map wk = [.ptr b 0, .int .i64 kind, .int .i64 most])
    (hk : K (.agg (encI item00)) h) : callQ Try.prog (.fn 86 first caps) args h K := callQ_s (item_bad hb hx kind most) ha hk
/-- A loop of reading that isn't right any more. -/
structure BLoop {α : Type} (h : H) (b : Nat) (s1 : RS) (p : Rd α) (j : Nat) (h1 : H) (v : AV) (L : List α) (t : Tok) : Prop where
  keep : HF h h1 (· = b) (fun _ => False)
  blt : b < h1.bn
  bx : h1.bx b = some [v, .bool true]
  got : ∀ L', Got (Rd.rep p j) s1 L' none
  len : L.length = j
  live : TLive h1 t j
  new : TNew h t
theorem len_encRS {s : RS} : (encRS s).length = 2 := by cases s <;> rfl

set_option maxHeartbeats 2000000 in
theorem refProgGet_rd {h : H} {b : Nat} {s : RS} (hr : RIs h b s) : RdS 87 [.ptr b 0] h b s rdProg [] (fun l => .sl .no (l.map encInst)) := by
  refine RdS.of hr rdProg_ok (fun l => elOK_Inst.pureL l) (CallP.run hb87 ok87 (by simp) ?_)
  have hb := hr.blt
  simp -implicitDefEqProofs []
  refine callQ_item (rdCount 8) 0 (·.n) (by simp [inI]) hr (item_count 8 s) (by simp) fun y0 s1 e0 e0' q g => ?_
  have hin := rdCount_in (most := 8) (by simp [inI]) s
  rw [← e0] at hin
  obtain ⟨N, hNe⟩ := Int.eq_ofNat_of_zero_le hin.1
  have hN : N ≤ 8 := by omega
  rw [hNe] at g
  simp -implicitDefEqProofs [encI, hNe]
  refine run_loop (fun m S h1 => ∃ (j : Nat) (sj : RS) (L : List Inst) (t : Tok), m = N - j ∧ j ≤ N ∧ S 0 = .ptr b 0 ∧ S 4 = .sl t (L.map encInst) ∧ S 3 = .int .i64 N ∧ S 5 = .int .i64 j ∧ RLoop h b s1 rdInst j h1 sj L t) ?_ N ?_
  rotate_left
  · exact ⟨0, s1, [], .full, rfl, Nat.zero_le _, by simp, by simp, by simp, by simp, RLoop.start q⟩
  rintro m S h1 ⟨j, sj, L, t, hm, hj, t0, t4, t3, t5, hL⟩ ih
  have hbn : h.bn ≤ h1.bn := hL.to.keep.bn
  have hb1 : b < h1.bn := by omega
  have z0 : ¬ b = h1.bn := by omega
  have z1 : ¬ h1.bn = b := by omega
  by_cases hlt : j < N
  · have k0 := RTo.al (RTo.refl hL.to.is) [.int .i64 0, .int .i64 0, .int .i64 0, .int .i64 0, .int .i64 0, .int .i64 0, .int .i64 0, .int .i64 0, .int .i64 0]
    simp -implicitDefEqProofs [t0, t3, t5, hlt]
    refine callQ_item (rdCount 255) 0 (·.n) (by simp [inI]) k0.is (item_count 255 sj) (by simp) fun v1 u1 _ _ q1 g1 => ?_
    have k1 := RTo.so (k0.trans q1) (b' := h1.bn) (Nat.le_refl _) hb1 [.int .i64 v1.n, .int .i64 0, .int .i64 0, .int .i64 0, .int .i64 0, .int .i64 0, .int .i64 0, .int .i64 0, .int .i64 0]
    simp -implicitDefEqProofs [t0, z1, encI]
    refine callQ_item (rdCount 255) 0 (·.n) (by simp [inI]) k1.is (item_count 255 u1) (by simp) fun v2 u2 _ _ q2 g2 => ?_
    have k2 := RTo.so (k1.trans q2) (b' := h1.bn) (Nat.le_refl _) hb1 [.int .i64 v1.n, .int .i64 v2.n, .int .i64 0, .int .i64 0, .int .i64 0, .int .i64 0, .int .i64 0, .int .i64 0, .int .i64 0]
    simp -implicitDefEqProofs [t0, z1, encI]
    refine callQ_item (rdCount 255) 0 (·.n) (by simp [inI]) k2.is (item_count 255 u2) (by simp) fun v3 u3 _ _ q3 g3 => ?_
    have k3 := RTo.so (k2.trans q3) (b' := h1.bn) (Nat.le_refl _) hb1 [.int .i64 v1.n, .int .i64 v2.n, .int .i64 v3.n, .int .i64 0, .int .i64 0, .int .i64 0, .int .i64 0, .int .i64 0, .int .i64 0]
    simp -implicitDefEqProofs [t0, z1, encI]
    refine callQ_item (rdCount 255) 0 (·.n) (by simp [inI]) k3.is (item_count 255 u3) (by simp) fun v4 u4 _ _ q4 g4 => ?_
    have k4 := RTo.so (k3.trans q4) (b' := h1.bn) (Nat.le_refl _) hb1 [.int .i64 v1.n, .int .i64 v2.n, .int .i64 v3.n, .int .i64 v4.n, .int .i64 0, .int .i64 0, .int .i64 0, .int .i64 0, .int .i64 0]
    simp -implicitDefEqProofs [t0, z1, encI]
    refine callQ_r (refKey_rd k4.is) (by simp) fun v5 u5 q5 g5 => ?_
    have k5 := RTo.so (k4.trans q5) (b' := h1.bn) (Nat.le_refl _) hb1 [.int .i64 v1.n, .int .i64 v2.n, .int .i64 v3.n, .int .i64 v4.n, .int .i64 v5.arg, .int .i64 v5.base, .int .i64 0, .int .i64 0, .int .i64 0]
    simp -implicitDefEqProofs [t0, z1, encKeyT]
    refine callQ_r (refKey_rd k5.is) (by simp) fun v6 u6 q6 g6 => ?_
    have k6 := RTo.so (k5.trans q6) (b' := h1.bn) (Nat.le_refl _) hb1 [.int .i64 v1.n, .int .i64 v2.n, .int .i64 v3.n, .int .i64 v4.n, .int .i64 v5.arg, .int .i64 v5.base, .int .i64 v6.arg, .int .i64 v6.base, .int .i64 0]
    simp -implicitDefEqProofs [t0, z1, encKeyT]
    refine callQ_item rdSigned 0 (·.x) (by simp [inI]) k6.is (item_signed u6) (by simp) fun v7 u7 _ _ q7 g7 => ?_
    have k7 := RTo.so (k6.trans q7) (b' := h1.bn) (Nat.le_refl _) hb1 [.int .i64 v1.n, .int .i64 v2.n, .int .i64 v3.n, .int .i64 v4.n, .int .i64 v5.arg, .int .i64 v5.base, .int .i64 v6.arg, .int .i64 v6.base, .int .i64 v7.x]
    simp -implicitDefEqProofs [z1, encI, t4]
    refine appQ_tok (t := t) (es := L.map encInst) (es2 := [encInst ⟨v1.n, v2.n, v3.n, v4.n, v5, v6, v7.x⟩]) (by simpa [hL.len] using hL.live) (by simp [encInst]) (by simp [srcA, encInst]) (by simp [hL.len]; omega) fun t' h3 p1 p2 p3 p4 => ?_
    have hg : Got rdInst sj ⟨v1.n, v2.n, v3.n, v4.n, v5, v6, v7.x⟩ u7 := g1.bind (g2.bind (g3.bind (g4.bind (g5.bind (g6.bind (g7.bind (Got.pure _ _)))))))
    have hl2 := hL.next hg (h2 := _) (h3 := h3) (t' := t') (hL.to.trans k7) (by simpa [hL.len] using p1) p2 p3
    simp -implicitDefEqProofs [t5, inc_i64 hlt (show N ≤ _ by omega), -Int.natCast_add]
    exact ih (N - (j + 1)) _ _ (by omega) ⟨j + 1, u7, _, t', rfl, by omega, by simp [t0], by simp, by simp [t3], by simp, hl2⟩
  · obtain rfl : j = N := by omega
    have hx := hL.to.is.bx
    have hlt2 := hL.to.is.blt
    have hgp : Got rdProg s L sj := g.bind (by rw [Int.toNat_natCast]; exact hL.got)
    simp -implicitDefEqProofs [t0, t3, t5, hx, hlt2, len_encRS]
    cases sj with
    | none =>
      simp -implicitDefEqProofs [encRS]
      exact ⟨none, hL.to.fin, Got.any hgp _⟩
    | some l =>
      simp -implicitDefEqProofs [encRS, t4]
      exact ⟨L, rfl, some l, hL.to.fin, hgp, (fun h => by cases h)⟩

set_option maxHeartbeats 2000000 in
theorem refFootGet_rd {h : H} {b : Nat} {s : RS} (hr : RIs h b s) : RdS 88 [.ptr b 0] h b s rdFoot [] (fun l => .sl .no (l.map encSpanT)) := by
  refine RdS.of hr rdFoot_ok (fun l => elOK_SpanT.pureL l) (CallP.run hb88 ok88 (by simp) ?_)
  have hb := hr.blt
  simp -implicitDefEqProofs []
  refine callQ_item (rdCount 4) 0 (·.n) (by simp [inI]) hr (item_count 4 s) (by simp) fun y0 s1 e0 e0' q g => ?_
  have hin := rdCount_in (most := 4) (by simp [inI]) s
  rw [← e0] at hin
  obtain ⟨N, hNe⟩ := Int.eq_ofNat_of_zero_le hin.1
  have hN : N ≤ 4 := by omega
  rw [hNe] at g
  simp -implicitDefEqProofs [encI, hNe]
  refine run_loop (fun m S h1 => ∃ (j : Nat) (sj : RS) (L : List SpanT) (t : Tok), m = N - j ∧ j ≤ N ∧ S 0 = .ptr b 0 ∧ S 4 = .sl t (L.map encSpanT) ∧ S 3 = .int .i64 N ∧ S 5 = .int .i64 j ∧ (RLoop h b s1 rdSpanT j h1 sj L t ∨ ∃ v, BLoop h b s1 rdSpanT j h1 v L t)) ?_ N ?_
  rotate_left
  · exact ⟨0, s1, [], .full, rfl, Nat.zero_le _, by simp, by simp, by simp, by simp, Or.inl (RLoop.start q)⟩
  rintro m S h1 ⟨j, sj, L, t, hm, hj, t0, t4, t3, t5, hL | ⟨v, hB⟩⟩ ih
  rotate_left
  · have hb1 := hB.blt
    have hbx := hB.bx
    by_cases hlt : j < N
    · simp -implicitDefEqProofs [t0, t3, t5, hlt]
      refine callQ_ib hb1 hbx rfl ?_
      simp -implicitDefEqProofs [t0, encI, item00]
      refine callQ_ib hb1 hbx rfl ?_
      simp -implicitDefEqProofs [t0, encI, item00]
      refine callQ_ib hb1 hbx rfl ?_
      simp -implicitDefEqProofs [t0, encI, item00]
      refine callQ_ib hb1 hbx rfl ?_
      simp -implicitDefEqProofs [t0, encI, item00]
      refine callQ_ib hb1 hbx rfl ?_
      simp -implicitDefEqProofs [t4, encI, item00]
      refine appQ_tok (t := t) (es := L.map encSpanT) (es2 := [encSpanT ⟨⟨0, 0⟩, ⟨0, 0⟩, false⟩]) (by simpa [hB.len] using hB.live) (by simp [encSpanT]) (by simp [srcA, encSpanT]) (by simp [hB.len]; omega) fun t' h3 p1 p2 p3 p4 => ?_
      have hB2 : BLoop h b s1 rdSpanT (j + 1) h3 v (L ++ [⟨⟨0, 0⟩, ⟨0, 0⟩, false⟩]) t' := ⟨hB.keep.trans' p3 (fun _ _ h => h.elim) (fun i hi ho => hB.new i hi ho), by rw [p4]; exact hb1, (p3.bx b hb1 fun h => h).trans hbx, fun L' => (hB.got []).bind (show Got _ none L' none from rfl), by simp [hB.len], by simpa [hB.len] using p1, hB.new.next hB.keep p2⟩
      simp -implicitDefEqProofs [t5, inc_i64 hlt (show N ≤ _ by omega), -Int.natCast_add]
      exact ih (N - (j + 1)) _ _ (by omega) ⟨j + 1, none, _, t', rfl, by omega, by simp [t0], by simp, by simp [t3], by simp, Or.inr ⟨v, hB2⟩⟩
    · obtain rfl : j = N := by omega
      simp -implicitDefEqProofs [t0, t3, t5, hb1, hbx]
      exact ⟨none, RFin.bad hB.keep hbx, g.bind (by rw [Int.toNat_natCast]; exact hB.got _)⟩
  have hbn : h.bn ≤ h1.bn := hL.to.keep.bn
  have hb1 : b < h1.bn := by omega
  by_cases hlt : j < N
  · simp -implicitDefEqProofs [t0, t3, t5, hlt]
    refine callQ_item rdSigned 0 (·.x) (by simp [inI]) hL.to.is (item_signed sj) (by simp) fun v1 u1 _ _ q1 g1 => ?_
    simp -implicitDefEqProofs [encI, t0]
    refine callQ_item (rdCount 999) 0 (·.n) (by simp [inI]) q1.is (item_count 999 u1) (by simp) fun v2 u2 _ _ q2 g2 => ?_
    simp -implicitDefEqProofs [encI, t0]
    refine callQ_item rdSigned 0 (·.x) (by simp [inI]) q2.is (item_signed u2) (by simp) fun v3 u3 _ _ q3 g3 => ?_
    simp -implicitDefEqProofs [encI, t0]
    refine callQ_item (rdCount 999) 0 (·.n) (by simp [inI]) q3.is (item_count 999 u3) (by simp) fun v4 u4 _ _ q4 g4 => ?_
    have k4 := q1.trans (q2.trans (q3.trans q4))
    have hb4 := k4.is.blt
    have hx4 := k4.is.bx
    have gk1 : ¬ (v1.x < -1 ∨ 255 < v1.x) → Got rdKey sj ⟨v1.x, v2.n⟩ u2 := fun hn => g1.bind (by rw [if_neg hn]; exact g2.bind (Got.pure _ _))
    have gk2 : ¬ (v3.x < -1 ∨ 255 < v3.x) → Got rdKey u2 ⟨v3.x, v4.n⟩ u4 := fun hn => g3.bind (by rw [if_neg hn]; exact g4.bind (Got.pure _ _))
    have gb1 : (v1.x < -1 ∨ 255 < v1.x) → Got rdKey sj ⟨v1.x, v2.n⟩ none := fun hn => g1.bind (by rw [if_pos hn]; exact Got.fail _ _)
    have gb2 : (v3.x < -1 ∨ 255 < v3.x) → Got rdKey u2 ⟨v3.x, v4.n⟩ none := fun hn => g3.bind (by rw [if_pos hn]; exact Got.fail _ _)
    have gall : ((v1.x < -1 ∨ 255 < v1.x) ∨ (v3.x < -1 ∨ 255 < v3.x)) → ∀ a, Got rdSpanT sj a none := fun hor a => by
      refine Got.any (a := ⟨⟨v1.x, v2.n⟩, ⟨v3.x, v4.n⟩, false⟩) ?_ a
      have fl : Got rdFlag none false none := rfl
      by_cases c1 : v1.x < -1 ∨ 255 < v1.x
      · exact (gb1 c1).bind ((show Got rdKey none (⟨v3.x, v4.n⟩ : KeyT) none from rfl).bind (fl.bind (Got.pure _ _)))
      · exact (gk1 c1).bind ((gb2 (hor.resolve_left c1)).bind (fl.bind (Got.pure _ _)))
    by_cases hbad : (v1.x < -1 ∨ 255 < v1.x) ∨ (v3.x < -1 ∨ 255 < v3.x)
    · have gall := gall hbad
      obtain ⟨v0, hv0⟩ : ∃ v0, List.take 1 (encRS u4) ++ AV.bool true :: List.drop 2 (encRS u4) = [v0, .bool true] := by cases u4 <;> exact ⟨_, rfl⟩
      have hcase : (v1.x < -1) ∨ (¬ v1.x < -1 ∧ 255 < v1.x) ∨ (¬ v1.x < -1 ∧ ¬ 255 < v1.x ∧ v3.x < -1) ∨ (¬ v1.x < -1 ∧ ¬ 255 < v1.x ∧ ¬ v3.x < -1 ∧ 255 < v3.x) := by omega
      have hk5 : HF h1 ((((((h1.set b (encRS u1)).set b (encRS u2)).set b (encRS u3)).set b (encRS u4)).set b [v0, .bool true])) (· = b) (fun _ => False) := k4.keep.trans (HF.set _ rfl)
      rcases hcase with c1 | ⟨c1, c2⟩ | ⟨c1, c2, c3⟩ | ⟨c1, c2, c3, c4⟩
      focus
        simp -implicitDefEqProofs [encI, t0, c1, len_encRS, hb1, hv0]
      rotate_left
      focus
        simp -implicitDefEqProofs [encI, t0, c1, c2, len_encRS, hb1, hv0]
      rotate_left
      focus
        simp -implicitDefEqProofs [encI, t0, c1, c2, c3, len_encRS, hb1, hv0]
      rotate_left
      focus
        simp -implicitDefEqProofs [encI, t0, c1, c2, c3, c4, len_encRS, hb1, hv0]
      all_goals
        refine callQ_ib (v := v0) (by simpa using hb1) (by simp) rfl ?_
        simp -implicitDefEqProofs [t4, encI, item00]
        refine appQ_tok (t := t) (es := L.map encSpanT) (es2 := [encSpanT ⟨⟨v1.x, v2.n⟩, ⟨v3.x, v4.n⟩, false⟩]) (by simpa [hL.len] using hL.live) (by simp [encSpanT]) (by simp [srcA, encSpanT]) (by simp [hL.len]; omega) fun t' h3 p1 p2 p3 p4 => ?_
        have hB2 : BLoop h b s1 rdSpanT (j + 1) h3 v0 (L ++ [⟨⟨v1.x, v2.n⟩, ⟨v3.x, v4.n⟩, false⟩]) t' := ⟨(hL.to.keep.trans hk5).trans' p3 (fun _ _ h => h.elim) (fun i hi ho => hL.new i hi ho), by rw [p4]; simpa using hb1, by rw [p3.bx b (by simpa using hb1) (fun h => h)]; simp, fun L' => hL.got.bind ((gall ⟨⟨0, 0⟩, ⟨0, 0⟩, false⟩).bind (show Got _ none L' none from rfl)), by simp [hL.len], by simpa [hL.len] using p1, hL.new.next (hL.to.keep.trans hk5) p2⟩
        simp -implicitDefEqProofs [t5, inc_i64 hlt (show N ≤ _ by omega), -Int.natCast_add]
        exact ih (N - (j + 1)) _ _ (by omega) ⟨j + 1, none, _, t', rfl, by omega, by simp [t0], by simp, by simp [t3], by simp, Or.inr ⟨v0, hB2⟩⟩
    · have c1 : ¬ v1.x < -1 := fun h => hbad (.inl (.inl h))
      have c2 : ¬ 255 < v1.x := fun h => hbad (.inl (.inr h))
      have c3 : ¬ v3.x < -1 := fun h => hbad (.inr (.inl h))
      have c4 : ¬ 255 < v3.x := fun h => hbad (.inr (.inr h))
      simp -implicitDefEqProofs [encI, t0, c1, c2, c3, c4]
      refine callQ_item rdFlag false (fun y => decide (y.n = 1)) (by simp [inI]) k4.is (item_flag u4) (by simp) fun v5 u5 _ _ q5 g5 => ?_
      simp -implicitDefEqProofs [encI, t4]
      refine appQ_tok (t := t) (es := L.map encSpanT) (es2 := [encSpanT ⟨⟨v1.x, v2.n⟩, ⟨v3.x, v4.n⟩, decide (v5.n = 1)⟩]) (by simpa [hL.len] using hL.live) (by simp [encSpanT]) (by simp [srcA, encSpanT]) (by simp [hL.len]; omega) fun t' h3 p1 p2 p3 p4 => ?_
      have hg : Got rdSpanT sj ⟨⟨v1.x, v2.n⟩, ⟨v3.x, v4.n⟩, decide (v5.n = 1)⟩ u5 := (gk1 (by omega)).bind ((gk2 (by omega)).bind (g5.bind (Got.pure _ _)))
      have hl2 := hL.next hg (h2 := _) (h3 := h3) (t' := t') (hL.to.trans (k4.trans q5)) (by simpa [hL.len] using p1) p2 p3
      simp -implicitDefEqProofs [t5, inc_i64 hlt (show N ≤ _ by omega), -Int.natCast_add]
      exact ih (N - (j + 1)) _ _ (by omega) ⟨j + 1, u5, _, t', rfl, by omega, by simp [t0], by simp, by simp [t3], by simp, Or.inl hl2⟩
  · obtain rfl : j = N := by omega
    have hx := hL.to.is.bx
    have hlt2 := hL.to.is.blt
    have hgp : Got rdFoot s L sj := g.bind (by rw [Int.toNat_natCast]; exact hL.got)
    simp -implicitDefEqProofs [t0, t3, t5, hx, hlt2, len_encRS]
    cases sj with
    | none =>
      simp -implicitDefEqProofs [encRS]
      exact ⟨none, hL.to.fin, Got.any hgp _⟩
    | some l =>
      simp -implicitDefEqProofs [encRS, t4]
      exact ⟨L, rfl, some l, hL.to.fin, hgp, (fun h => by cases h)⟩
end Go.Proofs

/- The program's reader of classes. -/
namespace Go.Proofs
open Go Go.RowKit Go.Am

def clsCells (name : ByteArray) (args : Int) (t t' : Tok) (L : List (Stp × Stp)) (r : Bool) : List AV := [.str name, .int .i64 args, .sl t (L.map fun p => encStp p.1), .sl t' (L.map fun p => encStp p.2), .bool r]
/-- What the loop over the steps has read. -/
structure CLoop (h : H) (b : Nat) (s1 : RS) (name : ByteArray) (args : Int) (j : Nat) (h1 : H) (sj : RS) (L : List (Stp × Stp)) (t t' : Tok) : Prop where
  to : RTo h b h1 sj
  got : Got (Rd.rep rdPair j) s1 L sj
  len : L.length = j
  bx : h1.bx (h.bn + 1) = some (clsCells name args t t' L false)
  b0 : h1.bx h.bn = some [.str ⟨#[]⟩, .int .i64 0, .sl .full [], .sl .full [], .bool false]
  bn : h.bn + 1 < h1.bn
  live : TLive h1 t j
  live' : TLive h1 t' j
  new : TNew h t
  new' : TNew h t'
  apart : TApart t t'

set_option maxHeartbeats 2000000 in
theorem classGet_rd {h : H} {b : Nat} {s : RS} (hr : RIs h b s) : RdX 43 [.ptr b 0] h b (clsRV s) (clsRS s) := by
  refine RdX.mk' hr (clsRS_bd hr.bd) (pure_clsRV s) (CallP.run hb43 ok43 (by simp) ?_)
  have hb := hr.blt
  have z0 : ¬ h.bn = b := by omega
  have z1 : ¬ h.bn + 1 = b := by omega
  have z2 : ¬ b = h.bn := by omega
  have z3 : ¬ b = h.bn + 1 := by omega
  simp -implicitDefEqProofs []
  refine callQ_r (text_rd (hr.alloc _)).q (by simp) fun name s1 q1 g1 => ?_
  simp -implicitDefEqProofs []
  refine callQ_r (count_rd (most := 3) q1.is (by simp [inI])).q (by simp) fun args s2 q2 g2 => ?_
  have k2 := RTo.al (RTo.refl hr) [.str ⟨#[]⟩, .int .i64 0, .sl .full [], .sl .full [], .bool false] |>.trans (q1.trans q2)
  have k3 := RTo.so (RTo.al k2 [.str ⟨#[]⟩, .int .i64 0, .sl .full [], .sl .full [], .bool false]) (b' := h.bn + 1) (Nat.le_succ _) hb [.str name, .int .i64 args, .sl .full [], .sl .full [], .bool false]
  simp -implicitDefEqProofs []
  have hn := count_rd k3.is (most := 4) (by simp [inI])
  refine callQ_s hn.call (by simp) ?_
  have q := hn.to
  have g := Got.runS (rdCount 4) 0 s2
  have hin := rdCount_in (most := 4) (by simp [inI]) s2
  clear hn
  generalize runS (rdCount 4) 0 s2 = x at q g hin ⊢
  obtain ⟨n, s3⟩ := x
  simp only at q g hin
  obtain ⟨N, rfl⟩ := Int.eq_ofNat_of_zero_le hin.1
  have hN : N ≤ 4 := by omega
  have k4 := k3.trans q
  simp -implicitDefEqProofs []
  refine run_loop (fun m S h1 => ∃ (j : Nat) (sj : RS) (L : List (Stp × Stp)) (t t' : Tok), m = N - j ∧ j ≤ N ∧ S 0 = .ptr b 0 ∧ S 2 = .ptr h.bn 0 ∧ S 4 = .ptr (h.bn + 1) 0 ∧ S 11 = .int .i64 N ∧ S 12 = .int .i64 j ∧ CLoop h b s3 name args j h1 sj L t t') ?_ N ?_
  rotate_left
  · exact ⟨0, s3, [], .full, .full, rfl, Nat.zero_le _, by simp, by simp, by simp, by simp, by simp, ⟨k4, Got.pure _ _, rfl, by simp [z1, clsCells], by simp [z0], by simp, trivial, trivial, TNew.full _, TNew.full _, fun i h => by cases h⟩⟩
  clear k4 k3 k2 q
  rintro m S h1 ⟨j, sj, L, t, t', hm, hj, t0, t2, t4, t11, t12, hL⟩ ih
  have hbn : h.bn ≤ h1.bn := hL.to.keep.bn
  have hn1 := hL.bn
  have hbx := hL.bx
  rw [clsCells] at hbx
  by_cases hlt : j < N
  · simp -implicitDefEqProofs [t11, t12, hlt]
    refine run_dreg c43_d5 ?_
    have f1 := step_rd hL.to.is
    have q1 := f1.to
    simp -implicitDefEqProofs [t0, t4, hbx, hn1]
    refine callD_s f1.call (by simp) ?_
    have k1 := hL.to.trans q1
    simp -implicitDefEqProofs []
    refine appQ_tok (t := t) (es := L.map (fun p : Stp × Stp => encStp p.1)) (es2 := [encStp (stpV sj)]) (by simpa [hL.len] using hL.live) (fun e he => by obtain ⟨p, _, rfl⟩ := List.mem_map.1 he; rfl) (by simp [srcA, encStp]) (by simp [hL.len]; omega) fun ta h3 p1 p2 p3 p4 => ?_
    have e3 : h3.bx (h.bn + 1) = some [.str name, .int .i64 args, .sl t (L.map fun p => encStp p.1), .sl t' (L.map fun p => encStp p.2), .bool false] := by rw [p3.bx _ (by simpa using hn1) (fun h => h)]; simp [z1, hbx]
    have e0 : h3.bx h.bn = some [.str ⟨#[]⟩, .int .i64 0, .sl .full [], .sl .full [], .bool false] := by rw [p3.bx _ (by simp; omega) (fun h => h)]; simp [z0, hL.b0]
    have n3 : h.bn + 1 < h3.bn := by rw [p4]; exact hn1
    have l3 : TLive h3 t' j := (by simpa using hL.live' : TLive (h1.set b (encRS (stpS sj))) t' j).keep p3 fun i hi ho => hL.apart i ho hi
    have a3 : TApart ta t' := (TApart.next (h := h1.set b (encRS (stpS sj))) (by simpa using hL.live') hL.apart.symm p2).symm
    have k3 := (k1.app hL.new p3).so (b' := h.bn + 1) (Nat.le_succ _) hb [.str name, .int .i64 args, .sl ta (L.map (fun p : Stp × Stp => encStp p.1) ++ [encStp (stpV sj)]), .sl t' (L.map fun p => encStp p.2), .bool false]
    simp -implicitDefEqProofs [t4, hbx, hn1, z1, e3, n3]
    refine run_dreg c43_d6 ?_
    have f2 := step_rd k3.is
    have q2 := f2.to
    have k4 := k3.trans q2
    simp -implicitDefEqProofs [t0, t4, n3]
    refine callD_s f2.call (by simp) ?_
    simp -implicitDefEqProofs []
    refine appQ_tok (t := t') (es := L.map (fun p : Stp × Stp => encStp p.2)) (es2 := [encStp (stpV (stpS sj))]) (by simpa [hL.len] using l3) (fun e he => by obtain ⟨p, _, rfl⟩ := List.mem_map.1 he; rfl) (by simp [srcA, encStp]) (by simp [hL.len]; omega) fun tb h4 r1 r2 r3 r4 => ?_
    have e4 : h4.bx (h.bn + 1) = some [.str name, .int .i64 args, .sl ta (L.map (fun p : Stp × Stp => encStp p.1) ++ [encStp (stpV sj)]), .sl t' (L.map fun p => encStp p.2), .bool false] := by rw [r3.bx _ (by simpa using n3) (fun h => h)]; simp [z1]
    have e5 : h4.bx h.bn = some [.str ⟨#[]⟩, .int .i64 0, .sl .full [], .sl .full [], .bool false] := by rw [r3.bx _ (by simp; omega) (fun h => h)]; simp [z0, e0]
    have n4 : h.bn + 1 < h4.bn := by rw [r4]; exact n3
    simp -implicitDefEqProofs [t4, t12, z1, e4, n4, n3, inc_i64 hlt (show N ≤ _ by omega), -Int.natCast_add]
    have k5 := (k4.app hL.new' r3).so (b' := h.bn + 1) (Nat.le_succ _) hb (clsCells name args ta tb (L ++ [(stpV sj, stpV (stpS sj))]) false)
    have lta : TLive h3 ta (j + 1) := by simpa [hL.len] using p1
    have lta4 : TLive h4 ta (j + 1) := (by simpa using lta : TLive ((h3.set (h.bn + 1) [.str name, .int .i64 args, .sl ta (L.map (fun p : Stp × Stp => encStp p.1) ++ [encStp (stpV sj)]), .sl t' (L.map fun p => encStp p.2), .bool false]).set b (encRS (stpS (stpS sj)))) ta (j + 1)).keep r3 fun i hi ho => a3 i hi ho
    have ltb4 : TLive h4 tb (j + 1) := by simpa [hL.len] using r1
    have aab : TApart ta tb := TApart.next (h := (h3.set (h.bn + 1) [.str name, .int .i64 args, .sl ta (L.map (fun p : Stp × Stp => encStp p.1) ++ [encStp (stpV sj)]), .sl t' (L.map fun p => encStp p.2), .bool false]).set b (encRS (stpS (stpS sj)))) (by simpa using lta) a3 r2
    have gg : Got rdPair sj (stpV sj, stpV (stpS sj)) (stpS (stpS sj)) := (stp_got sj).bind ((stp_got _).bind (Got.pure _ _))
    rw [clsCells, List.map_append, List.map_append] at k5
    exact ih (N - (j + 1)) _ _ (by omega) ⟨j + 1, _, L ++ [(stpV sj, stpV (stpS sj))], ta, tb, rfl, by omega, by simp [t0], by simp [t2], by simp [t4], by simp [t11], by simp, ⟨k5, hL.got.bind (gg.bind (Got.pure _ _)), by simp [hL.len], by simp [clsCells], by simp [e5], by simpa using n4, by simpa using lta4, by simpa using ltb4, hL.new.next k1.keep p2, hL.new'.next k4.keep r2, aab⟩⟩
  · obtain rfl : j = N := by omega
    simp -implicitDefEqProofs [t0, t11, t12]
    have hfl := flag_rd hL.to.is
    refine callQ_s hfl.call (by simp) ?_
    have q3 := hfl.to
    have g3 := Got.runS rdFlag false sj
    clear hfl
    generalize runS rdFlag false sj = y at q3 g3 ⊢
    obtain ⟨fl, s5⟩ := y
    simp only at q3 g3
    have k6 := (hL.to.trans q3).so (b' := h.bn + 1) (Nat.le_succ _) hb (clsCells name args t t' L fl)
    rw [clsCells] at k6
    have b0 := hL.b0
    have hgc : Got rdCls s ⟨name, args, L.map (·.1), L.map (·.2), fl⟩ s5 := g1.bind (g2.bind (g.bind ((by rw [Int.toNat_natCast]; exact hL.got : Got (Rd.rep rdPair (j : Int).toNat) s3 L sj).bind (g3.bind (Got.pure _ _)))))
    simp -implicitDefEqProofs [t0, t4, hn1, hbx, z1]
    refine callQ_s (rOk_ok k6.is) (by simp) ?_
    have hend : ∀ (X : H) (s6 : RS), RTo h b X s6 → clsR s = none → h.bn + 1 < X.bn → X.bx h.bn = some [.str ⟨#[]⟩, .int .i64 0, .sl .full [], .sl .full [], .bool false] → callQ Try.prog (.fn 68 [] []) [.ptr b 0, .int .i64 (-1)] X fun r h2 => RFin h b h2 (clsRS s) ∧ h2.bn = X.bn ∧ h2.bx h.bn = X.bx h.bn := fun X s6 kx hcn hxn hxb => by
      refine callQ_r (count_rd (most := -1) kx.is (by simp [inI])).q (by simp) fun n s7 q7 g7 => ?_
      have hs7 : s7 = none := by
        have := g7
        unfold Got at this
        cases s6 with
        | none => exact this
        | some l => cases l <;> simpa [rdCount] using this
      subst hs7
      refine ⟨?_, rfl, by simp [z0]⟩
      have : clsRS s = none := by simp [clsRS, hcn]
      rw [this]
      exact (kx.trans q7).fin
    have hc0 : ∀ (c0 : clsR s = none), clsRV s = .tup [.agg [.str ⟨#[]⟩, .int .i64 0, .sl .no [], .sl .no [], .bool false], .bool false] := fun c0 => by simp [clsRV, c0, cls0, encCls]
    cases s5 with
    | none =>
      have hcn := clsR_none hgc
      have hrv := hc0 hcn
      simp -implicitDefEqProofs [t0]
      refine callQ_mono (fun r h2 ⟨r1, r2, r3⟩ => ?_) (hend _ none k6 hcn (by simpa using hn1) (by simp [z0, b0]))
      have n2 : h.bn < h2.bn := by rw [r2]; simp; omega
      have b2 : h2.bx h.bn = some [.str ⟨#[]⟩, .int .i64 0, .sl .full [], .sl .full [], .bool false] := by rw [r3]; simp [z0, b0]
      simp -implicitDefEqProofs [t2, n2, b2, hrv]
      exact r1.so (Nat.le_refl _) hb _
    | some l =>
      have hcs := clsR_some hgc
      have hwf := Got.all rdCls_all hr.bd hgc
      simp -implicitDefEqProofs [t4, hn1]
      refine callQ_p (classMay_ok _ hwf) (by simp [encCls, Function.comp_def]) ?_
      cases hcm : clsMay ⟨name, args, L.map (·.1), L.map (·.2), fl⟩
      · have hcn : clsR s = none := by rw [hcs, hcm]; rfl
        have hrv := hc0 hcn
        simp -implicitDefEqProofs [t0]
        refine callQ_mono (fun r h2 ⟨r1, r2, r3⟩ => ?_) (hend _ (some l) k6 hcn (by simpa using hn1) (by simp [z0, b0]))
        have n2 : h.bn < h2.bn := by rw [r2]; simp; omega
        have b2 : h2.bx h.bn = some [.str ⟨#[]⟩, .int .i64 0, .sl .full [], .sl .full [], .bool false] := by rw [r3]; simp [z0, b0]
        simp -implicitDefEqProofs [t2, n2, b2, hrv]
        exact r1.so (Nat.le_refl _) hb _
      · have hcy : clsR s = some (⟨name, args, L.map (·.1), L.map (·.2), fl⟩, l) := by rw [hcs, hcm]; rfl
        have hrv : clsRV s = .tup [.agg (encCls ⟨name, args, L.map (·.1), L.map (·.2), fl⟩), .bool true] := by simp [clsRV, hcy]
        have hrs : clsRS s = some l := by simp [clsRS, hcy]
        simp -implicitDefEqProofs [t2, t4, hn1, z0, b0, hrv, hrs, show h.bn < h1.bn by omega]
        exact ⟨by simp [encCls, Function.comp_def], (k6.so (Nat.le_refl _) hb _).fin⟩
end Go.Proofs
