/- What the functions that the statement reaches do: their contracts; and what follows of it. -/
import Derived.Test.YtaepkklbckgbhaaDoorSProgWords10
import Derived.Test.YtaepkklbckgbhaaDoorSProgWords8
import Derived.Test.YtaepkklbckgbhaaDoorSProgWords9
/- What is written of a class is read as that class: plain laws. -/
namespace Go.Proofs
open Go Go.RowKit Go.Am

theorem cut64_whole {s : ByteArray} (h : ¬ 64 < s.size) : cut64 s = s := by
  refine bytes_ext (by rw [cut64_size]; omega) fun j hj => ?_
  rw [cut64_size] at hj
  have h1 : s.data.size = s.size := rfl
  have h2 : min s.size 64 = s.size := by omega
  unfold byteAt cut64
  simp only [ByteArray.data_extract, Array.getElem?_extract, h1, h2]
  rw [if_pos (by omega)]
  simp
/-- These words, whatever follows, are read as this. -/
def Back {α : Type} (p : Rd α) (ws : List Nat) (a : α) : Prop := ∀ rest, p (ws ++ rest) = some (a, rest)
theorem Back.bind {α β : Type} {p : Rd α} {q : α → Rd β} {w1 w2 : List Nat} {a : α} {b : β} (h1 : Back p w1 a) (h2 : Back (q a) w2 b) : Back (p.bind q) (w1 ++ w2) b := fun rest => by
  rw [Rd.bind, List.append_assoc, h1]; exact h2 rest
theorem Back.pure {α : Type} (a : α) : Back (Rd.pure a) [] a := fun rest => rfl
theorem Back.last {α β : Type} {p : Rd α} {q : α → Rd β} {w1 : List Nat} {a : α} {b : β} (h1 : Back p w1 a) (h2 : Back (q a) [] b) : Back (p.bind q) w1 b := by
  have := h1.bind h2
  rwa [List.append_nil] at this
theorem Back.count {n most : Int} (h0 : 0 ≤ n) (h1 : n ≤ most) : Back (rdCount most) [n.toNat] n := fun rest => by
  have e : ((n.toNat : Nat) : Int) = n := by omega
  simp only [List.cons_append, List.nil_append, rdCount]
  rw [if_pos ⟨by omega, by omega⟩, e]
theorem Back.signed (x : Int) : Back rdSigned [Proofs.signed x] x := fun rest => by simp [rdSigned, backI_signed]
theorem Back.flag (r : Bool) : Back rdFlag [if r then 1 else 0] r := fun rest => by cases r <;> simp [rdFlag, rdCount]
theorem Back.text {s : ByteArray} (h : s.size ≤ 64) : Back rdText (textW s) s := fun rest => by rw [rdText_write, cut64_whole (by omega)]
theorem Back.rep {α : Type} {p : Rd α} {f : α → List Nat} {L : List α} (h : ∀ a ∈ L, Back p (f a) a) : Back (Rd.rep p L.length) (L.flatMap f) L := by
  have key : ∀ k, k ≤ L.length → Back (Rd.rep p k) ((L.take k).flatMap f) (L.take k) := fun k => by
    induction k with
    | zero => intro _; exact Back.pure _
    | succ k ih =>
      intro hk
      have hlt : k < L.length := by omega
      rw [flat_snoc f hlt, List.take_succ_eq_append_getElem hlt]
      exact (ih (by omega)).bind ((h _ (List.getElem_mem hlt)).last (Back.pure _))
  have := key L.length (Nat.le_refl _)
  rwa [List.take_length] at this

def keyOK (k : KeyT) : Prop := -1 ≤ k.arg ∧ k.arg ≤ 255 ∧ 0 ≤ k.base ∧ k.base ≤ 999
def instOK (x : Inst) : Prop := (0 ≤ x.op ∧ x.op ≤ 255) ∧ (0 ≤ x.a ∧ x.a ≤ 255) ∧ (0 ≤ x.b ∧ x.b ≤ 255) ∧ (0 ≤ x.c ∧ x.c ≤ 255) ∧ keyOK x.k ∧ keyOK x.l
def stpOK (s : Stp) : Prop := (s.code.length ≤ 8 ∧ ∀ x ∈ s.code, instOK x) ∧ s.foot.length ≤ 4 ∧ ∀ x ∈ s.foot, keyOK x.lo ∧ keyOK x.hi

theorem back_key {k : KeyT} (h : keyOK k) : Back rdKey [signed k.arg, k.base.toNat] k := by
  obtain ⟨h1, h2, h3, h4⟩ := h
  exact (Back.signed k.arg).bind (w2 := [k.base.toNat]) (by rw [if_neg (by omega)]; exact (Back.count h3 h4).last (Back.pure _))
theorem back_inst {x : Inst} (h : instOK x) : Back rdInst (writeAll (instItems x)) x := by
  obtain ⟨⟨a1, a2⟩, ⟨b1, b2⟩, ⟨c1, c2⟩, ⟨d1, d2⟩, hk, hl⟩ := h
  have e : writeAll (instItems x) = [x.op.toNat] ++ ([x.a.toNat] ++ ([x.b.toNat] ++ ([x.c.toNat] ++ ([signed x.k.arg, x.k.base.toNat] ++ ([signed x.l.arg, x.l.base.toNat] ++ [signed x.x]))))) := rfl
  rw [e]
  exact (Back.count a1 a2).bind ((Back.count b1 b2).bind ((Back.count c1 c2).bind ((Back.count d1 d2).bind ((back_key hk).bind ((back_key hl).bind ((Back.signed x.x).last (Back.pure _)))))))
theorem back_span {s : SpanT} (h : keyOK s.lo ∧ keyOK s.hi) : Back rdSpanT (writeAll (spanItems s)) s := by
  have e : writeAll (spanItems s) = [signed s.lo.arg, s.lo.base.toNat] ++ ([signed s.hi.arg, s.hi.base.toNat] ++ [if s.write then 1 else 0]) := by rw [w_span]; rfl
  rw [e]
  exact (back_key h.1).bind ((back_key h.2).bind ((Back.flag s.write).last (Back.pure _)))
theorem back_prog {l : List Inst} (h8 : l.length ≤ 8) (h : ∀ x ∈ l, instOK x) : Back rdProg (writeAll (progItems l)) l := by
  rw [progItems, writeAll_cons, w_iN, writeAll_flat]
  refine (Back.count (n := (l.length : Int)) (by omega) (by omega)).bind ?_
  rw [Int.toNat_natCast]
  exact Back.rep fun x hx => back_inst (h x hx)
theorem back_foot {l : List SpanT} (h4 : l.length ≤ 4) (h : ∀ x ∈ l, keyOK x.lo ∧ keyOK x.hi) : Back rdFoot (writeAll (footItems l)) l := by
  rw [footItems, writeAll_cons, w_iN, writeAll_flat]
  refine (Back.count (n := (l.length : Int)) (by omega) (by omega)).bind ?_
  rw [Int.toNat_natCast]
  exact Back.rep fun x hx => back_span (h x hx)
theorem back_stp {s : Stp} (h : stpOK s) : Back rdStp (writeAll (stpItems s)) s := by
  rw [stpItems, writeAll_app]
  exact (back_prog h.1.1 h.1.2).bind ((back_foot h.2.1 h.2.2).last (Back.pure _))
theorem back_pair {p : Stp × Stp} (h : stpOK p.1 ∧ stpOK p.2) : Back rdPair (writeAll (pairItems p)) p := by
  rw [pairItems, writeAll_app]
  exact (back_stp h.1).bind ((back_stp h.2).last (Back.pure _))

theorem key_ok {k : KeyT} {args : Int} (h3 : args ≤ 3) (h : mayKey k args = true) : keyOK k := by
  simp only [mayKey, Bool.and_eq_true, decide_eq_true_eq] at h
  simp only [keyOK]; omega
theorem none_ok {k : KeyT} (h : keyNone k = true) : keyOK k := by
  simp only [keyNone, decide_eq_true_eq] at h
  simp only [keyOK]; omega
theorem inst_okM {x : Inst} {args : Int} (h3 : args ≤ 3) (h : oneInst x args = true) : instOK x := by
  have hr : ∀ {n : Int}, isReg n = true → 0 ≤ n ∧ n ≤ 255 := fun {n} h => by
    simp only [isReg, Bool.and_eq_true, Bool.not_eq_true', decide_eq_false_iff_not] at h; omega
  have z : ∀ {n : Int}, n = 0 → 0 ≤ n ∧ n ≤ 255 := fun {n} h => by omega
  unfold oneInst at h
  by_cases o1 : x.op = 1 ∨ x.op = 2
  · rw [if_pos o1] at h
    simp only [Bool.and_eq_true, decide_eq_true_eq] at h
    obtain ⟨⟨⟨⟨⟨a1, a2⟩, a3⟩, a4⟩, a5⟩, a6⟩ := h
    exact ⟨by omega, hr a1, z a3, z a4, key_ok h3 a6, none_ok a5⟩
  by_cases o3 : x.op = 3
  · rw [if_neg o1, if_pos o3] at h
    simp only [Bool.and_eq_true, decide_eq_true_eq] at h
    obtain ⟨⟨⟨⟨⟨a1, a2⟩, a3⟩, a4⟩, a5⟩, a6⟩ := h
    exact ⟨by omega, z a1, z a3, z a4, key_ok h3 a6, none_ok a5⟩
  by_cases o4 : x.op = 4
  · rw [if_neg o1, if_neg o3, if_pos o4] at h
    simp only [Bool.and_eq_true, decide_eq_true_eq] at h
    obtain ⟨⟨⟨⟨⟨a1, a2⟩, a3⟩, a4⟩, a5⟩, a6⟩ := h
    exact ⟨by omega, hr a1, z a3, z a4, key_ok h3 a5, key_ok h3 a6⟩
  by_cases o5 : x.op = 5 ∨ x.op = 8
  · rw [if_neg o1, if_neg o3, if_neg o4, if_pos o5] at h
    simp only [Bool.and_eq_true, decide_eq_true_eq] at h
    obtain ⟨⟨⟨⟨a1, a2⟩, a3⟩, a4⟩, a5⟩ := h
    exact ⟨by omega, hr a1, z a2, z a3, none_ok a4, none_ok a5⟩
  by_cases o6 : x.op = 6 ∨ x.op = 7
  · rw [if_neg o1, if_neg o3, if_neg o4, if_neg o5, if_pos o6] at h
    simp only [Bool.and_eq_true, decide_eq_true_eq] at h
    obtain ⟨⟨⟨⟨⟨a1, a2⟩, a3⟩, a4⟩, a5⟩, a6⟩ := h
    exact ⟨by omega, hr a1, hr a3, hr a4, none_ok a5, none_ok a6⟩
  · rw [if_neg o1, if_neg o3, if_neg o4, if_neg o5, if_neg o6] at h
    cases h
theorem prog_okM {l : List Inst} {args : Int} (h : progMay l args = true) : l.length ≤ 8 ∧ ∀ x ∈ l, instOK x := by
  simp only [progMay, Bool.and_eq_true, Bool.not_eq_true', decide_eq_false_iff_not, List.all_eq_true] at h
  exact ⟨by omega, fun x hx => inst_okM (by omega) (h.2 x hx)⟩
theorem foot_okM {l : List SpanT} {args : Int} (h : footMay l args = true) : l.length ≤ 4 ∧ ∀ x ∈ l, keyOK x.lo ∧ keyOK x.hi := by
  simp only [footMay, Bool.and_eq_true, Bool.not_eq_true', decide_eq_false_iff_not, List.all_eq_true] at h
  exact ⟨by omega, fun x hx => ⟨key_ok (by omega) (h.2 x hx).1, key_ok (by omega) (h.2 x hx).2⟩⟩
theorem pair_okM {args : Int} {p : Stp × Stp} (h : stepMay args p = true) : stpOK p.1 ∧ stpOK p.2 := by
  simp only [stepMay, backMay, Bool.and_eq_true, Bool.or_eq_true, Bool.not_eq_true', decide_eq_false_iff_not] at h
  obtain ⟨⟨⟨h1, h2⟩, h3⟩, h4, _⟩ := h
  refine ⟨⟨prog_okM h1, foot_okM h2⟩, ?_, foot_okM h3⟩
  rcases h4 with h | h
  · have : p.2.code = [] := List.length_eq_zero_iff.1 (by omega)
    rw [this]; exact ⟨Nat.zero_le _, fun x hx => by cases hx⟩
  · exact prog_okM h

theorem zip_fst {α β : Type} : ∀ (a : List α) (b : List β), a.length = b.length → (a.zip b).map (·.1) = a ∧ (a.zip b).map (·.2) = b
  | [], [], _ => ⟨rfl, rfl⟩
  | x :: a, y :: b, h => by
    obtain ⟨h1, h2⟩ := zip_fst a b (by simpa using h)
    exact ⟨by simp [h1], by simp [h2]⟩
  | [], _ :: _, h => by simp at h
  | _ :: _, [], h => by simp at h
theorem back_cls {c : Cls} (h : clsMay c = true) : Back rdCls (writeAll (clsItems c)) c := by
  have h0 := h
  simp only [clsMay, Bool.and_eq_true, Bool.not_eq_true', decide_eq_false_iff_not, decide_eq_true_eq, List.all_eq_true] at h
  obtain ⟨⟨⟨⟨⟨⟨⟨n1, n2⟩, a1⟩, a2⟩, s1⟩, s2⟩, hcs⟩, hall⟩ := h
  have e : writeAll (clsItems c) = textW c.name ++ ([c.args.toNat] ++ ([(c.steps.length : Int).toNat] ++ (((c.steps.zip c.comps).flatMap fun p => writeAll (pairItems p)) ++ [if c.resume then 1 else 0]))) := by
    have e1 : clsItems c = [iS c.name, iN c.args 3, iN c.steps.length 4] ++ (c.steps.zip c.comps).flatMap pairItems ++ [iF c.resume] := rfl
    rw [e1, writeAll_app, writeAll_app, writeAll_flat]
    simp [writeAll, w_iS, w_iN, w_iF]
  rw [e]
  have hz : (c.steps.zip c.comps).length = c.steps.length := by simp [hcs]
  obtain ⟨z1, z2⟩ := zip_fst c.steps c.comps hcs.symm
  refine (Back.text (by omega)).bind ((Back.count (by omega) (by omega)).bind ((Back.count (n := (c.steps.length : Int)) (by omega) (by omega)).bind ?_))
  have hrep : Back (Rd.rep rdPair (c.steps.length : Int).toNat) ((c.steps.zip c.comps).flatMap fun p => writeAll (pairItems p)) (c.steps.zip c.comps) := by
    rw [Int.toNat_natCast, ← hz]
    exact Back.rep fun p hp => back_pair (pair_okM (hall p hp))
  refine hrep.bind ((Back.flag c.resume).last ?_)
  rw [z1, z2]
  exact Back.pure _
end Go.Proofs

/- The program's reader of classes. -/
namespace Go.Proofs
open Go Go.RowKit Go.Am

def clsCells (name : ByteArray) (args : Int) (t t' : Tok) (L : List (Stp × Stp)) (r : Bool) : List AV := [.str name, .int .i64 args, .sl t (L.map fun p => encStp p.1), .sl t' (L.map fun p => encStp p.2), .bool r]
/-- What the loop over the steps has read. -/
structure CLoop (h : H) (b : Nat) (s1 : RS) (name : ByteArray) (args : Int) (j : Nat) (h1 : H) (sj : RS) (L : List (Stp × Stp)) (t t' : Tok) : Prop where
  to : RTo h b h1 sj
  got : Got (Rd.rep rdPair j) s1 L sj
  len : L.length = j
  bx : h1.bx (h.bn + 1) = some (clsCells name args t t' L false)
  b0 : h1.bx h.bn = some [.str ⟨#[]⟩, .int .i64 0, .sl .full [], .sl .full [], .bool false]
  bn : h.bn + 1 < h1.bn
  live : TLive h1 t j
  live' : TLive h1 t' j
  new : TNew h t
  new' : TNew h t'
  apart : TApart t t'

end Go.Proofs

/- The document's reader of classes. -/
namespace Go.Proofs
open Go Go.RowKit Go.Am

end Go.Proofs

/- The law of what is read as a class. -/
namespace Go.Proofs
open Go Go.RowKit Go.Am

def aliveK : Cls := ⟨⟨#[97]⟩, 0, [⟨[⟨5, 0, 0, 0, ⟨0, 0⟩, ⟨0, 0⟩, 0⟩], []⟩], [⟨[], []⟩], false⟩
theorem aliveK_wf : aliveK.wf := by
  refine ⟨by decide, by simp [inI, aliveK], ⟨by decide, ?_⟩, by decide, ?_⟩
  · intro y hy
    simp only [aliveK, List.mem_singleton] at hy
    subst hy
    refine ⟨⟨by decide, ?_⟩, by decide, by simp⟩
    intro y hy
    simp only [List.mem_singleton] at hy
    subst hy
    simp [Inst.wf, KeyT.wf, inI]
  · intro y hy
    simp only [aliveK, List.mem_singleton] at hy
    subst hy
    exact ⟨⟨by decide, by simp⟩, by decide, by simp⟩
theorem clsR_wf {s : RS} (hs : Bd s) {c : Cls} {l : List Nat} (h : clsR s = some (c, l)) : c.wf := by
  simp only [clsR, Option.bind_eq_some_iff] at h
  obtain ⟨x, ⟨l0, h1, h2⟩, h3⟩ := h
  split at h3
  · cases h3
    exact rdCls_all l0 c l (hs l0 h1).2 h2
  · cases h3
theorem cls0_wf : cls0.wf := ⟨by decide, by simp [inI, cls0], ⟨by decide, by simp [cls0]⟩, by decide, by simp [cls0]⟩

end Go.Proofs

/- The law of what is written of a class. -/
namespace Go.Proofs
open Go Go.RowKit Go.Am

theorem writeW_less {x : Item} (hx : x.ok) (hw : ∀ w ∈ x.l, w < 18446744073709551616) : ∀ w ∈ writeW x, w < 18446744073709551616 := fun w h => by
  obtain ⟨⟨n1, n2⟩, ⟨x1, x2⟩, s1, l1⟩ := hx
  unfold writeW at h
  split at h
  · simp at h; omega
  split at h
  · simp at h; subst h; exact signed_lt x1 x2
  split at h
  · simp at h; subst h; split <;> omega
  split at h
  · simp only [textW, List.mem_cons] at h
    rcases h with rfl | h
    · have := cut64_size x.s; omega
    · exact packed_lt _ w h
  · simp only [List.mem_cons] at h
    rcases h with rfl | h
    · omega
    · exact hw w h
theorem writeAll_less {l : List Item} (h : ∀ x ∈ l, x.ok ∧ ∀ w ∈ x.l, w < 18446744073709551616) : ∀ w ∈ writeAll l, w < 18446744073709551616 := fun w hw => by
  obtain ⟨x, hx, hw⟩ := List.mem_flatMap.1 hw
  exact writeW_less (h x hx).1 (h x hx).2 w hw

def itOK (x : Item) : Prop := x.ok ∧ x.l = []
theorem it_N {n most : Int} (h : inI n) : itOK (iN n most) := ⟨⟨h, by simp [inI, iN], Nat.zero_le _, Nat.zero_le _⟩, rfl⟩
theorem it_X {x : Int} (h : inI x) : itOK (iX x) := ⟨⟨by simp [inI, iX], h, Nat.zero_le _, Nat.zero_le _⟩, rfl⟩
theorem it_F (r : Bool) : itOK (iF r) := ⟨⟨by cases r <;> simp [inI, iF], by simp [inI, iF], Nat.zero_le _, Nat.zero_le _⟩, rfl⟩
theorem it_S {s : ByteArray} (h : s.size ≤ 1000) : itOK (iS s) := ⟨⟨by simp [inI, iS], by simp [inI, iS], h, Nat.zero_le _⟩, rfl⟩
theorem it_keys {k : KeyT} (h : k.wf) : ∀ x ∈ keyItems k, itOK x := fun x hx => by
  simp only [keyItems, List.mem_cons, List.not_mem_nil, or_false] at hx
  rcases hx with rfl | rfl
  · exact it_X h.1
  · exact it_N h.2
theorem it_inst {y : Inst} (h : y.wf) : ∀ x ∈ instItems y, itOK x := fun x hx => by
  obtain ⟨h1, h2, h3, h4, h5, h6, h7⟩ := h
  simp only [instItems, List.mem_append, List.mem_cons, List.not_mem_nil, or_false] at hx
  rcases hx with ((rfl | rfl | rfl | rfl) | hx | hx) | rfl
  · exact it_N h1
  · exact it_N h2
  · exact it_N h3
  · exact it_N h4
  · exact it_keys h5 x hx
  · exact it_keys h6 x hx
  · exact it_X h7
theorem it_span {y : SpanT} (h : y.wf) : ∀ x ∈ spanItems y, itOK x := fun x hx => by
  simp only [spanItems, List.mem_append, List.mem_cons, List.not_mem_nil, or_false] at hx
  rcases hx with (hx | hx) | rfl
  · exact it_keys h.1 x hx
  · exact it_keys h.2 x hx
  · exact it_F _
theorem it_stp {s : Stp} (h : s.wf) : ∀ x ∈ stpItems s, itOK x := fun x hx => by
  obtain ⟨⟨h1, h2⟩, h3, h4⟩ := h
  simp only [maxLen] at h1 h3
  simp only [stpItems, progItems, footItems, List.mem_append, List.mem_cons, List.mem_flatMap] at hx
  rcases hx with (rfl | ⟨y, hy, hx⟩) | (rfl | ⟨y, hy, hx⟩)
  · exact it_N (by simp only [inI]; omega)
  · exact it_inst (h2 y hy) x hx
  · exact it_N (by simp only [inI]; omega)
  · exact it_span (h4 y hy) x hx
theorem it_cls {c : Cls} (h : c.wf) (hm : clsMay c = true) : ∀ x ∈ clsItems c, itOK x := fun x hx => by
  obtain ⟨hwn, hwa, ⟨hsl, hsw⟩, hcl, hcw⟩ := h
  have hn : c.name.size ≤ 16 := by
    simp only [clsMay, Bool.and_eq_true, Bool.not_eq_true', decide_eq_false_iff_not] at hm; omega
  simp only [maxLen] at hsl
  simp only [clsItems, List.mem_append, List.mem_cons, List.not_mem_nil, or_false, List.mem_flatMap] at hx
  rcases hx with ((rfl | rfl | rfl) | ⟨p, hp, hx⟩) | rfl
  · exact it_S (by omega)
  · exact it_N hwa
  · exact it_N (by simp only [inI]; omega)
  · have h1 := (List.of_mem_zip hp)
    rcases hx with hx | hx
    · exact it_stp (hsw _ h1.1) x hx
    · exact it_stp (hcw _ h1.2) x hx
  · exact it_F _
theorem clsI_len {c : Cls} (hm : clsMay c = true) : (clsItems c).length ≤ 1000 := by
  obtain ⟨c0, c4, hcs, css, csc⟩ := clsMay_small hm
  have key : ∀ l : List (Stp × Stp), (∀ p ∈ l, p.1.small ∧ p.2.small) → (l.flatMap pairItems).length ≤ 188 * l.length := fun l => by
    induction l with
    | nil => intro _; exact Nat.le_refl _
    | cons p l ih =>
      intro h
      have h1 := ih fun q hq => h q (List.mem_cons_of_mem _ hq)
      obtain ⟨s1, s2⟩ := h p (List.mem_cons_self ..)
      have e1 := stpI_n _ s1
      have e2 := stpI_n _ s2
      rw [List.flatMap_cons, List.length_append, pairItems, List.length_append, List.length_cons]
      omega
  have h1 := key (c.steps.zip c.comps) fun p hp => ⟨css _ (List.of_mem_zip hp).1, csc _ (List.of_mem_zip hp).2⟩
  have hz : (c.steps.zip c.comps).length = c.steps.length := by simp [hcs]
  have e1 : clsItems c = [iS c.name, iN c.args 3, iN c.steps.length 4] ++ (c.steps.zip c.comps).flatMap pairItems ++ [iF c.resume] := rfl
  rw [e1, List.length_append, List.length_append]
  simp only [List.length_cons, List.length_nil]
  omega

end Go.Proofs

/- The statement ProgWords: its function hands back true. -/
namespace Go.Proofs
open Go Go.RowKit Go.Am

set_option maxHeartbeats 1000000 in
set_option maxRecDepth 4000 in
theorem progWords_ok (l : List Inst) (n : Int) (hw : l.length ≤ 9223372036854775807 ∧ ∀ y ∈ l, y.wf) : PCall Tryd.prog 6 [.sl .no (l.map encInst), .int .i64 n] (.bool true) := by
  refine PCall.run hb6 ok6 (by simp) (pures2 (elOK_Inst.pureL l) (.int _ _)) (.bool _) ?_
  simp -implicitDefEqProofs [H.nil]
  refine callQ_p alive9_ok (by simp) ?_
  simp -implicitDefEqProofs []
  refine callQ_p (refProgMay_ok l n (by omega)) (by simp) ?_
  cases hm : progMay l n
  · simp -implicitDefEqProofs []
  obtain ⟨h8, hk⟩ := prog_okM hm
  have hit : ∀ x ∈ progItems l, itOK x := fun x hx => by
    simp only [progItems, List.mem_cons, List.mem_flatMap] at hx
    rcases hx with rfl | ⟨y, hy, hx⟩
    · exact it_N (by simp only [inI]; omega)
    · exact it_inst (hw.2 y hy) x hx
  have hil : (progItems l).length ≤ 1000 := by
    rw [progItems, List.length_cons, prog_n]; omega
  generalize hW : writeAll (progItems l) = W
  have hWl : W.length ≤ 102 * 1000 := by
    rw [← hW]
    exact Nat.le_trans (writeAll_len _ fun x hx => by rw [(hit x hx).2]; exact Nat.zero_le _) (Nat.mul_le_mul_left _ hil)
  have hWw : ∀ w ∈ W, w < 18446744073709551616 := fun w hw => by
    rw [← hW] at hw
    exact writeAll_less (fun x hx => ⟨(hit x hx).1, by rw [(hit x hx).2]; simp⟩) w hw
  have hbk : runS rdProg [] (some W) = (l, some []) := by
    have := back_prog h8 hk []
    rw [hW, List.append_nil] at this
    have e : (some W).bind rdProg = rdProg W := rfl
    simp only [runS, e, this]
    rfl
  simp -implicitDefEqProofs []
  refine callW (progPut_ok (b := 0) (t := .full) (ws := []) ⟨by simp, by simp, trivial⟩ l h8 hw.2 (by simp)) (by simp) fun r h1 t1 q1 => ?_
  rw [List.nil_append, hW] at q1
  have n1 : 0 < h1.bn := q1.wb.lt
  simp -implicitDefEqProofs []
  refine callQ_s (done_ok q1.wb (by omega)) (by simp) ?_
  simp -implicitDefEqProofs []
  refine callQ_s (newReader_ok W h1) (by simp) ?_
  have hbd : Bd (some W) := fun l e => by cases e; exact ⟨by omega, hWw⟩
  have ri := RIs.new hbd h1
  simp -implicitDefEqProofs []
  have g1 := progGet_rd ri
  refine callQ_s g1.call (by simp) ?_
  have ri2 := g1.to.is
  rw [hbk] at ri2
  simp -implicitDefEqProofs [hbk]
  generalize hX : (H.set _ h1.bn _ : H) = X
  have xr : X.bx h1.bn = some (encRS (some [])) := by rw [← hX]; simp
  have xw : X.bx 0 = some [.sl t1 (W.map w64)] := by rw [← hX]; simp [show ¬ 0 = h1.bn by omega, q1.wb.bx]
  have xl : TLive X t1 W.length := by rw [← hX]; simpa using q1.wb.live
  have xn : X.bn = h1.bn + 1 := by rw [← hX]; simp
  clear hX
  have wbX : WB X 0 t1 W := ⟨by omega, xw, xl⟩
  have riX : RIs X h1.bn (some []) := ⟨by omega, xr, fun l e => by cases e; exact ⟨by simp, by simp⟩⟩
  refine callQ_s (done_ok wbX (by omega)) (by simp) ?_
  simp -implicitDefEqProofs []
  refine callQ_p (refProgItems_ok l h8) (by simp) ?_
  simp -implicitDefEqProofs []
  refine callQ_p (refWords_ok (progItems l) (by omega) fun x hx => ⟨(hit x hx).1, by rw [(hit x hx).2]; exact Nat.zero_le _⟩) (by simp [encIs]) ?_
  rw [hW]
  simp -implicitDefEqProofs []
  refine callQ_p (words_ok W W (by omega) (by omega)) (by simp) ?_
  simp -implicitDefEqProofs []
  refine callQ_s (rEnd_ok riX) (by simp) ?_
  simp -implicitDefEqProofs [endS]
  refine callQ_p (same09_ok l (by omega)) (by simp) ?_
  simp -implicitDefEqProofs []
end Go.Proofs
