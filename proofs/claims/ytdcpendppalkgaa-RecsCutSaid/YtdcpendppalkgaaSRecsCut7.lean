/- What the functions that the statement reaches do: their contracts; and what follows of it. -/
import Derived.Test.YtdcpendppalkgaaSRecsCut6
/- What is read as a template, an instruction, a span, a program, a footprint, a class: plain laws; contracts of readers. -/
namespace Go.Proofs
open Go Go.RowKit Go.Am

def Rd.none {α : Type} : Rd α := fun _ => Option.none
def Rd.rep {α : Type} (p : Rd α) : Nat → Rd (List α)
  | 0 => Rd.pure []
  | k + 1 => (Rd.rep p k).bind fun L => p.bind fun a => Rd.pure (L ++ [a])
def rdKey : Rd KeyT := rdSigned.bind fun a => if a < -1 ∨ 255 < a then Rd.none else (rdCount 999).bind fun n => Rd.pure ⟨a, n⟩
def rdInst : Rd Inst := (rdCount 255).bind fun op => (rdCount 255).bind fun a => (rdCount 255).bind fun b => (rdCount 255).bind fun c => rdKey.bind fun k => rdKey.bind fun l => rdSigned.bind fun x => Rd.pure ⟨op, a, b, c, k, l, x⟩
def rdSpanT : Rd SpanT := rdKey.bind fun lo => rdKey.bind fun hi => rdFlag.bind fun w => Rd.pure ⟨lo, hi, w⟩
def rdProg : Rd (List Inst) := (rdCount 8).bind fun n => Rd.rep rdInst n.toNat
def rdFoot : Rd (List SpanT) := (rdCount 4).bind fun n => Rd.rep rdSpanT n.toNat
def rdStp : Rd Stp := rdProg.bind fun c => rdFoot.bind fun f => Rd.pure ⟨c, f⟩
def rdPair : Rd (Stp × Stp) := rdStp.bind fun s => rdStp.bind fun u => Rd.pure (s, u)
theorem Got.bad {α : Type} {p : Rd α} {s' : RS} {a : α} (h : Got p none a s') : s' = none := h
/-- Where it isn't right, the value doesn't count. -/
theorem Got.any {α : Type} {p : Rd α} {s : RS} {a : α} (h : Got p s a none) (b : α) : Got p s b none := by
  unfold Got at h ⊢
  cases hp : s.bind p with
  | none => rfl
  | some x => rw [hp] at h; obtain ⟨_, h2⟩ := h; cases h2
theorem Got.eq {α : Type} {p : Rd α} {s : RS} {a : α} {l' : List Nat} (h : Got p s a (some l')) (d : α) : Proofs.runS p d s = (a, some l') := by
  unfold Got at h
  unfold Proofs.runS
  cases hp : s.bind p with
  | none => rw [hp] at h; cases h
  | some x => rw [hp] at h; obtain ⟨rfl, h2⟩ := h; cases h2; rfl
theorem Got.none_eq {α : Type} {p : Rd α} {s : RS} {a : α} (h : Got p s a none) (d : α) : Proofs.runS p d s = (d, none) := by
  unfold Got at h
  unfold Proofs.runS
  cases hp : s.bind p with
  | none => rfl
  | some x => rw [hp] at h; obtain ⟨_, h2⟩ := h; cases h2

theorem RdOK.none {α : Type} : RdOK (Rd.none (α := α)) := fun l a l' h => by cases h
theorem RdOK.rep {α : Type} {p : Rd α} (hp : RdOK p) : ∀ k, RdOK (Rd.rep p k)
  | 0 => RdOK.pure _
  | k + 1 => (RdOK.rep hp k).bind fun _ => hp.bind fun _ => RdOK.pure _
theorem CutOK.upd {P : Program} {h h1 : H} {b : Nat} {cs cs1 : List AV} {r1 r : AV} (hb : b < h.bn) (e : wk r1 = r) (hf : HF h h1 (· = b) (fun _ => False)) (hb1 : h1.bx b = some cs1) (hcs1 : WkL cs1 cs) (hr : PureV r) (hcs : ∀ v ∈ cs, PureV v) : CutOK h h1 (h.set b cs) id r1 r := by
  refine ⟨Nat.le_refl _, fun _ _ => rfl, fun b hb => Nat.lt_of_lt_of_le hb hf.bn, fun _ _ _ _ h => h, fun b' cs' hb' hcs' => ?_, ⟨Nat.le_refl _, hf.tn⟩, fun i hi => (hf.tk i hi fun h => h).symm, ⟨rfl, hf.ln⟩,
    fun l q hl hq => ⟨(hf.lp l hl).trans hq, q, hq, rfl⟩, ⟨rfl, hf.mn⟩, fun m es hm hes => ⟨(hf.mp m hm).trans hes, hes⟩, Low.weak' ?_⟩
  · by_cases hbb : b' = b
    · subst hbb
      have : cs = cs' := by simpa [H.set] using hcs'
      subst this
      exact .inr ⟨cs1, hb1, hcs1, fun v hv => (hcs v hv).low _ _ _ _ _⟩
    · have : h.bx b' = some cs' := by simpa [H.set, hbb] using hcs'
      exact .inl ⟨hb', (hf.bx b' hb' hbb).trans this, this⟩
  · rw [e]
    exact hr.low _ _ _ _ _

/-- A piece of reading, whatever it hands back where it isn't right. -/
def RdQ {α : Type} (f : FuncId) (args : List AV) (h : H) (b : Nat) (s : RS) (p : Rd α) (enc : α → AV) : Prop :=
  CallP Try.prog f args h fun r h1 => ∃ a s', r = enc a ∧ h1 = h.set b (encRS s') ∧ RTo h b h1 s' ∧ Got p s a s'
theorem RdQ.mk' {α : Type} {f : FuncId} {args : List AV} {h : H} {b : Nat} {s : RS} {p : Rd α} {enc : α → AV} (hr : RIs h b s) (hv : ∀ a, PureV (enc a))
    (hc : CallP Try.prog f args h fun r h1 => ∃ a s', wk r = enc a ∧ RFin h b h1 s' ∧ Bd s' ∧ Got p s a s') : RdQ f args h b s p enc :=
  hc.cut fun r h1 ⟨a, s', e, ⟨hf, cs1, hb1, hcs1⟩, hbd, hg⟩ => ⟨h.set b (encRS s'), id, enc a, CutOK.upd (P := Try.prog) hr.blt e hf hb1 hcs1 (hv a) (pure_encRS _), a, s', rfl, rfl, RTo.set hr hbd, hg⟩
theorem RdS.q {α : Type} {f : FuncId} {args : List AV} {h : H} {b : Nat} {s : RS} {p : Rd α} {d : α} {enc : α → AV} (hc : RdS f args h b s p d enc) : RdQ f args h b s p enc :=
  hc.call.callP ⟨_, _, rfl, rfl, hc.to, Got.runS p d s⟩
theorem callQ_r {α : Type} {f : FuncId} {first caps args as' : List AV} {h : H} {b : Nat} {s : RS} {p : Rd α} {enc : α → AV} {K : AV → H → Prop} (hc : RdQ f as' h b s p enc) (ha : (first ++ args ++ caps).map wk = as')
    (hk : ∀ a s', RTo h b (h.set b (encRS s')) s' → Got p s a s' → K (enc a) (h.set b (encRS s'))) : callQ Try.prog (.fn f first caps) args h K :=
  callQ_c hc ha fun r h1 ⟨a, s', e1, e2, q1, q2⟩ => by subst e1; subst e2; exact hk a s' q1 q2
/-- What is read whole, or nothing. -/
theorem RdS.of {α : Type} {f : FuncId} {args : List AV} {h : H} {b : Nat} {s : RS} {p : Rd α} {d : α} {enc : α → AV} (hr : RIs h b s) (hp : RdOK p) (hv : ∀ a, PureV (enc a))
    (hc : CallP Try.prog f args h fun r h1 => ∃ a s', wk r = enc a ∧ RFin h b h1 s' ∧ Got p s a s' ∧ (s' = none → a = d)) : RdS f args h b s p d enc :=
  RdS.mk' hr hp hv (hc.mono fun r h1 ⟨a, s', q1, q2, q3, q4⟩ => by
    cases s' with
    | none =>
      rw [Got.none_eq q3 d, ← q4 rfl]
      exact ⟨q1, q2⟩
    | some l =>
      rw [Got.eq q3 d]
      exact ⟨q1, q2⟩)

/-- A slice that was made since. -/
def TNew (h : H) (t : Tok) : Prop := ∀ i, i < h.tn → ¬ TOwn t i
theorem TNew.full (h : H) : TNew h .full := fun i _ h => by cases h
theorem TNew.next {h h1 : H} {t t' : Tok} {B T : Nat → Prop} (a : TNew h t) (e : HF h h1 B T) (n : TNext h1 t t') : TNew h t' := fun i hi ho => by
  rcases n with rfl | ⟨j, rfl, hj⟩
  · exact a i hi ho
  · cases ho
    have := e.tn
    omega
theorem RTo.app {h h1 h2 : H} {b : Nat} {s : RS} {t : Tok} (a : RTo h b h1 s) (ht : TNew h t) (e : HF h1 h2 (fun _ => False) (TOwn t)) : RTo h b h2 s :=
  ⟨a.keep.trans' e (fun _ _ h => h.elim) (fun i hi h => ht i hi h), a.is.keep e fun h => h⟩
theorem RTo.al {h h1 : H} {b : Nat} {s : RS} (a : RTo h b h1 s) (cs : List AV) : RTo h b (h1.alloc cs) s := ⟨a.keep.trans (HF.alloc _ _ _ _), a.is.alloc _⟩
theorem RTo.so {h h1 : H} {b b' : Nat} {s : RS} (a : RTo h b h1 s) (hn : h.bn ≤ b') (hb : b < h.bn) (cs : List AV) : RTo h b (h1.set b' cs) s :=
  ⟨a.keep.trans' (HF.set (B := (· = b')) _ rfl) (fun x hx e => by have e : x = b' := e; omega) (fun _ _ h => h), a.is.setO (by omega)⟩
theorem RFin.so {h h1 : H} {b b' : Nat} {s : RS} (a : RFin h b h1 s) (hn : h.bn ≤ b') (hb : b < h.bn) (cs : List AV) : RFin h b (h1.set b' cs) s := by
  obtain ⟨q1, cs1, q2, q3⟩ := a
  exact ⟨q1.trans' (HF.set (B := (· = b')) _ rfl) (fun x hx e => by have e : x = b' := e; omega) (fun _ _ h => h), cs1, by simp [show ¬ b = b' by omega, q2], q3⟩
end Go.Proofs

/- The program's readers of programs and footprints. -/
namespace Go.Proofs
open Go Go.RowKit Go.Am

end Go.Proofs

/- The program's readers of programs and footprints, whole. -/
namespace Go.Proofs
open Go Go.RowKit Go.Am

/-- What a loop of reading has done. -/
structure RLoop {α : Type} (h : H) (b : Nat) (s1 : RS) (p : Rd α) (j : Nat) (h1 : H) (sj : RS) (L : List α) (t : Tok) : Prop where
  to : RTo h b h1 sj
  got : Got (Rd.rep p j) s1 L sj
  len : L.length = j
  live : TLive h1 t j
  new : TNew h t
theorem RLoop.start {α : Type} {h h1 : H} {b : Nat} {s1 : RS} {p : Rd α} (a : RTo h b h1 s1) : RLoop h b s1 p 0 h1 s1 [] .full := ⟨a, Got.pure _ _, rfl, trivial, TNew.full _⟩
theorem RLoop.next {α : Type} {h h1 h2 h3 : H} {b : Nat} {s1 sj s' : RS} {p : Rd α} {j : Nat} {L : List α} {t t' : Tok} {a : α} (r : RLoop h b s1 p j h1 sj L t) (g : Got p sj a s') (to : RTo h b h2 s')
    (hl : TLive h3 t' (j + 1)) (hn : TNext h2 t t') (hf : HF h2 h3 (fun _ => False) (TOwn t)) : RLoop h b s1 p (j + 1) h3 s' (L ++ [a]) t' :=
  ⟨to.app r.new hf, r.got.bind (g.bind (Got.pure _ _)), by rw [List.length_append, r.len]; rfl, hl, r.new.next to.keep hn⟩

end Go.Proofs

/- The program's reader of footprints and steps. -/
namespace Go.Proofs
open Go Go.RowKit Go.Am

end Go.Proofs

/- Which classes there may be: the program's answer. -/
namespace Go.Proofs
open Go Go.RowKit Go.Am

end Go.Proofs

/- What is read as a class: plain laws. -/
namespace Go.Proofs
open Go Go.RowKit Go.Am

/-- All that is read is such. -/
def RdAll {α : Type} (p : Rd α) (Q : α → Prop) : Prop := ∀ l a l', (∀ w ∈ l, w < 18446744073709551616) → p l = some (a, l') → Q a
theorem RdAll.bind {α β : Type} {p : Rd α} {q : α → Rd β} {R : α → Prop} {Q : β → Prop} (hp : RdAll p R) (ho : RdOK p) (hq : ∀ a, R a → RdAll (q a) Q) : RdAll (p.bind q) Q := fun l b l' hw h => by
  simp only [Rd.bind, Option.bind_eq_some_iff] at h
  obtain ⟨⟨a, l1⟩, h1, h2⟩ := h
  exact hq a (hp l a l1 hw h1) l1 b l' (fun w hm => hw w ((ho l a l1 h1).2 w hm)) h2
theorem RdAll.pure {α : Type} {a : α} {Q : α → Prop} (h : Q a) : RdAll (Rd.pure a) Q := fun l b l' _ e => by
  simp only [Rd.pure, Option.some.injEq, Prod.mk.injEq] at e
  obtain ⟨rfl, _⟩ := e
  exact h
theorem RdAll.none {α : Type} {Q : α → Prop} : RdAll (Rd.none) Q := fun l b l' _ e => by cases e
theorem RdAll.rep {α : Type} {p : Rd α} {Q : α → Prop} (hp : RdAll p Q) (ho : RdOK p) : ∀ k, RdAll (Rd.rep p k) fun L => L.length = k ∧ ∀ a ∈ L, Q a
  | 0 => RdAll.pure ⟨rfl, fun a h => by cases h⟩
  | k + 1 => (RdAll.rep hp ho k).bind (ho.rep k) fun L ⟨h1, h2⟩ => hp.bind ho fun a ha => RdAll.pure ⟨by rw [List.length_append, h1]; rfl, fun x hx => by
    rcases List.mem_append.1 hx with h | h
    · exact h2 x h
    · rw [List.mem_singleton.1 h]; exact ha⟩
theorem rdCount_all (most : Int) : RdAll (rdCount most) fun n => 0 ≤ n ∧ n ≤ most := fun l a l' _ h => by
  cases l with
  | nil => cases h
  | cons w l =>
    simp only [rdCount] at h
    split at h
    · cases h; omega
    · cases h
theorem rdSigned_all : RdAll rdSigned inI := fun l a l' hw h => by
  cases l with
  | nil => cases h
  | cons w l =>
    simp only [rdSigned, Option.some.injEq, Prod.mk.injEq] at h
    obtain ⟨rfl, _⟩ := h
    exact backI_in (hw w (List.mem_cons_self ..))
theorem rdFlag_all : RdAll rdFlag fun _ => True := fun _ _ _ _ _ => trivial
theorem Got.all {α : Type} {p : Rd α} {Q : α → Prop} (hp : RdAll p Q) {s : RS} (hs : Bd s) {a : α} {l : List Nat} (h : Got p s a (some l)) : Q a := by
  unfold Got at h
  cases s with
  | none => simp at h
  | some l0 =>
    simp only [Option.bind_some] at h
    cases hq : p l0 with
    | none => rw [hq] at h; cases h
    | some x => rw [hq] at h; obtain ⟨rfl, _⟩ := h; exact hp l0 x.1 x.2 (hs l0 rfl).2 hq

end Go.Proofs

/- What is written of a class is read as that class: plain laws. -/
namespace Go.Proofs
open Go Go.RowKit Go.Am

/-- These words, whatever follows, are read as this. -/
def Back {α : Type} (p : Rd α) (ws : List Nat) (a : α) : Prop := ∀ rest, p (ws ++ rest) = some (a, rest)
theorem Back.bind {α β : Type} {p : Rd α} {q : α → Rd β} {w1 w2 : List Nat} {a : α} {b : β} (h1 : Back p w1 a) (h2 : Back (q a) w2 b) : Back (p.bind q) (w1 ++ w2) b := fun rest => by
  rw [Rd.bind, List.append_assoc, h1]; exact h2 rest
theorem Back.pure {α : Type} (a : α) : Back (Rd.pure a) [] a := fun rest => rfl
theorem Back.last {α β : Type} {p : Rd α} {q : α → Rd β} {w1 : List Nat} {a : α} {b : β} (h1 : Back p w1 a) (h2 : Back (q a) [] b) : Back (p.bind q) w1 b := by
  have := h1.bind h2
  rwa [List.append_nil] at this
theorem Back.count {n most : Int} (h0 : 0 ≤ n) (h1 : n ≤ most) : Back (rdCount most) [n.toNat] n := fun rest => by
  have e : ((n.toNat : Nat) : Int) = n := by omega
  simp only [List.cons_append, List.nil_append, rdCount]
  rw [if_pos ⟨by omega, by omega⟩, e]
theorem Back.signed (x : Int) : Back rdSigned [Proofs.signed x] x := fun rest => by simp [rdSigned, backI_signed]
theorem Back.flag (r : Bool) : Back rdFlag [if r then 1 else 0] r := fun rest => by cases r <;> simp [rdFlag, rdCount]
theorem Back.rep {α : Type} {p : Rd α} {f : α → List Nat} {L : List α} (h : ∀ a ∈ L, Back p (f a) a) : Back (Rd.rep p L.length) (L.flatMap f) L := by
  have key : ∀ k, k ≤ L.length → Back (Rd.rep p k) ((L.take k).flatMap f) (L.take k) := fun k => by
    induction k with
    | zero => intro _; exact Back.pure _
    | succ k ih =>
      intro hk
      have hlt : k < L.length := by omega
      rw [flat_snoc f hlt, List.take_succ_eq_append_getElem hlt]
      exact (ih (by omega)).bind ((h _ (List.getElem_mem hlt)).last (Back.pure _))
  have := key L.length (Nat.le_refl _)
  rwa [List.take_length] at this

end Go.Proofs

/- The document's reader: items, templates, programs, footprints. -/
namespace Go.Proofs
open Go Go.RowKit Go.Am

end Go.Proofs

/- The document's reader: templates, programs, footprints. -/
namespace Go.Proofs
open Go Go.RowKit Go.Am

end Go.Proofs

/- The document's reader of programs and footprints, whole. -/
namespace Go.Proofs
open Go Go.RowKit Go.Am

/-- A loop of reading that isn't right any more. -/
structure BLoop {α : Type} (h : H) (b : Nat) (s1 : RS) (p : Rd α) (j : Nat) (h1 : H) (v : AV) (L : List α) (t : Tok) : Prop where
  keep : HF h h1 (· = b) (fun _ => False)
  blt : b < h1.bn
  bx : h1.bx b = some [v, .bool true]
  got : ∀ L', Got (Rd.rep p j) s1 L' none
  len : L.length = j
  live : TLive h1 t j
  new : TNew h t
end Go.Proofs

/- The program's reader of classes. -/
namespace Go.Proofs
open Go Go.RowKit Go.Am

def clsCells (name : ByteArray) (args : Int) (t t' : Tok) (L : List (Stp × Stp)) (r : Bool) : List AV := [.str name, .int .i64 args, .sl t (L.map fun p => encStp p.1), .sl t' (L.map fun p => encStp p.2), .bool r]
/-- What the loop over the steps has read. -/
structure CLoop (h : H) (b : Nat) (s1 : RS) (name : ByteArray) (args : Int) (j : Nat) (h1 : H) (sj : RS) (L : List (Stp × Stp)) (t t' : Tok) : Prop where
  to : RTo h b h1 sj
  got : Got (Rd.rep rdPair j) s1 L sj
  len : L.length = j
  bx : h1.bx (h.bn + 1) = some (clsCells name args t t' L false)
  b0 : h1.bx h.bn = some [.str ⟨#[]⟩, .int .i64 0, .sl .full [], .sl .full [], .bool false]
  bn : h.bn + 1 < h1.bn
  live : TLive h1 t j
  live' : TLive h1 t' j
  new : TNew h t
  new' : TNew h t'
  apart : TApart t t'

end Go.Proofs

/- The document's reader of classes. -/
namespace Go.Proofs
open Go Go.RowKit Go.Am

end Go.Proofs

/- The law of what is read as a class. -/
namespace Go.Proofs
open Go Go.RowKit Go.Am

end Go.Proofs

/- The law of what is written of a class. -/
namespace Go.Proofs
open Go Go.RowKit Go.Am

theorem writeW_less {x : Item} (hx : x.ok) (hw : ∀ w ∈ x.l, w < 18446744073709551616) : ∀ w ∈ writeW x, w < 18446744073709551616 := fun w h => by
  obtain ⟨⟨n1, n2⟩, ⟨x1, x2⟩, s1, l1⟩ := hx
  unfold writeW at h
  split at h
  · simp at h; omega
  split at h
  · simp at h; subst h; exact signed_lt x1 x2
  split at h
  · simp at h; subst h; split <;> omega
  split at h
  · simp only [textW, List.mem_cons] at h
    rcases h with rfl | h
    · have := cut64_size x.s; omega
    · exact packed_lt _ w h
  · simp only [List.mem_cons] at h
    rcases h with rfl | h
    · omega
    · exact hw w h
theorem writeAll_less {l : List Item} (h : ∀ x ∈ l, x.ok ∧ ∀ w ∈ x.l, w < 18446744073709551616) : ∀ w ∈ writeAll l, w < 18446744073709551616 := fun w hw => by
  obtain ⟨x, hx, hw⟩ := List.mem_flatMap.1 hw
  exact writeW_less (h x hx).1 (h x hx).2 w hw

def itOK (x : Item) : Prop := x.ok ∧ x.l = []
theorem it_N {n most : Int} (h : inI n) : itOK (iN n most) := ⟨⟨h, by simp [inI, iN], Nat.zero_le _, Nat.zero_le _⟩, rfl⟩
theorem it_X {x : Int} (h : inI x) : itOK (iX x) := ⟨⟨by simp [inI, iX], h, Nat.zero_le _, Nat.zero_le _⟩, rfl⟩
theorem it_F (r : Bool) : itOK (iF r) := ⟨⟨by cases r <;> simp [inI, iF], by simp [inI, iF], Nat.zero_le _, Nat.zero_le _⟩, rfl⟩
end Go.Proofs

/- The words of records: items; the program's lists, each written by a function. -/
namespace Go.Proofs
open Go Go.RowKit Go.Am

def argI (a : Int) : List Item := [iN a 99]
def spnI (s : Spn) : List Item := [iN s.lo 999, iN s.hi 999]
def chgI (c : Chg) : List Item := [iN c.key 999, iF c.gone, iX c.value]
def argsI (l : List Int) : List Item := iN l.length 3 :: l.flatMap argI
def spnsI (l : List Spn) : List Item := iN l.length 8 :: l.flatMap spnI
def chgsI (l : List Chg) : List Item := iN l.length 8 :: l.flatMap chgI
def stepI (x : Recd) : List Item := [iN x.node.saga 12, iN x.node.cls 4, iN x.node.step 4, iF x.node.back] ++ (spnsI x.node.reads ++ spnsI x.node.writes) ++ x.regs.map iX ++ chgsI x.changes
/-- What a record is written as. -/
def recI (x : Recd) : List Item := if x.kind = 1 then iN x.cls 4 :: argsI x.args else if x.kind = 2 then stepI x else [iN x.saga 12, iN x.why 15]
def recW (x : Recd) : List Nat := writeAll (recI x)
theorem w_arg (a : Int) : writeAll (argI a) = [a.toNat] := rfl
theorem w_spn (s : Spn) : writeAll (spnI s) = [s.lo.toNat, s.hi.toNat] := rfl
theorem w_chg (c : Chg) : writeAll (chgI c) = [c.key.toNat, if c.gone then 1 else 0, signed c.value] := by simp [chgI, writeAll, w_iN, w_iF, w_iX]

set_option maxHeartbeats 1000000 in
theorem list_int {h : H} {b : Nat} {t : Tok} {ws : List Nat} (hw : WB h b t ws) (l : List Int) (h20 : l.length ≤ 100) (F : FuncId) (first caps : List AV) (hf : first.map wk = first) (hc : caps.map wk = caps) (fI : Int → List Item) (hn : ∀ x, (writeAll (fI x)).length ≤ 10)
    (one : ∀ x ∈ l, ∀ (h1 : H) (t1 : Tok) (ws1 : List Nat), WTo h b t ws1 h1 t1 → ws1.length ≤ 810000 → WAdd F (first ++ [.int .i64 x] ++ caps) h1 b t1 (ws1 ++ writeAll (fI x))) (hl : ws.length ≤ 800000) :
    WAdd 70 [.ptr b 0, .sl .no (l.map encN), .fn F first caps] h b t (ws ++ ([l.length] ++ writeAll (l.flatMap fI))) := by
  refine CallP.run hb70 ok70 (by simp) ?_
  have hb := hw.lt
  have hlen : ∀ k : List Int, (writeAll (k.flatMap fI)).length ≤ 10 * k.length := fun k => by
    rw [writeAll_flat]
    induction k with
    | nil => simp
    | cons a k ih => have := hn a; rw [List.flatMap_cons, List.length_append, List.length_cons]; omega
  simp -implicitDefEqProofs []
  refine callW (count_ok hw (l.length : Int) (by omega) (by omega)) (by simp) fun r h0 t0 q0 => ?_
  rw [Int.toNat_natCast] at q0
  simp -implicitDefEqProofs []
  refine run_loop (fun m S h1 => ∃ (j : Nat) (t1 : Tok), m = l.length - j ∧ j ≤ l.length ∧ S 0 = .ptr b 0 ∧ S 2 = .fn F first caps ∧ S 12 = .sl .no (l.map encN) ∧ S 13 = .int .i64 l.length ∧ S 14 = .int .i64 j ∧ WTo h b t (ws ++ [l.length] ++ writeAll ((l.take j).flatMap fI)) h1 t1) ?_ l.length ?_
  rotate_left
  · exact ⟨0, t0, rfl, Nat.zero_le _, by simp, by simp, by simp, by simp, by simp, by simpa [writeAll] using q0⟩
  rintro m S h1 ⟨j, t1, hm, hj, s0, s2, s12, s13, s14, hq⟩ ih
  by_cases hlt : j < l.length
  · have he := flat_snoc fI hlt
    have i1 := idxOf_nat (k := .i64) hlt
    have hll := hlen (l.take j)
    rw [List.length_take] at hll
    have hws : (ws ++ [l.length] ++ writeAll ((l.take j).flatMap fI)).length ≤ 810000 := by rw [List.length_append, List.length_append]; simp only [List.length_cons, List.length_nil]; omega
    have hm1 := List.getElem_mem hlt
    have hbn := hq.keep.bn
    have z : ¬ b = h1.bn := by omega
    generalize hxe : l[j] = x at he hm1
    simp -implicitDefEqProofs [s2, s12, s13, s14, hlt, hxe, encN]
    refine callQ_c (one x hm1 h1 t1 _ hq hws) (by simp [hf, hc]) fun r h2 ⟨t2, q2⟩ => ?_
    have k2 := hq.trans q2
    have hw9 : ws ++ [l.length] ++ writeAll ((l.take j).flatMap fI) ++ writeAll (fI x) = ws ++ [l.length] ++ writeAll ((l.take (j + 1)).flatMap fI) := by
      rw [he, writeAll_app]; simp
    rw [hw9] at k2
    simp -implicitDefEqProofs [s14, inc_i64 hlt (show l.length ≤ _ by omega), -Int.natCast_add]
    exact ih (l.length - (j + 1)) _ _ (by omega) ⟨j + 1, t2, rfl, by omega, by simp [s0], by simp [s2], by simp [s12], by simp [s13], by simp, k2⟩
  · obtain rfl : j = l.length := by omega
    rw [List.take_length] at hq
    simp -implicitDefEqProofs [s13, s14]
    exact ⟨t1, by simpa using hq⟩

set_option maxHeartbeats 1000000 in
theorem list_spn {h : H} {b : Nat} {t : Tok} {ws : List Nat} (hw : WB h b t ws) (l : List Spn) (h20 : l.length ≤ 100) (F : FuncId) (first caps : List AV) (hf : first.map wk = first) (hc : caps.map wk = caps) (fI : Spn → List Item) (hn : ∀ x, (writeAll (fI x)).length ≤ 10)
    (one : ∀ x ∈ l, ∀ (h1 : H) (t1 : Tok) (ws1 : List Nat), WTo h b t ws1 h1 t1 → ws1.length ≤ 810000 → WAdd F (first ++ [.agg (encSpn x)] ++ caps) h1 b t1 (ws1 ++ writeAll (fI x))) (hl : ws.length ≤ 800000) :
    WAdd 113 [.ptr b 0, .sl .no (l.map encSpn), .fn F first caps] h b t (ws ++ ([l.length] ++ writeAll (l.flatMap fI))) := by
  refine CallP.run hb113 ok113 (by simp) ?_
  have hb := hw.lt
  have hlen : ∀ k : List Spn, (writeAll (k.flatMap fI)).length ≤ 10 * k.length := fun k => by
    rw [writeAll_flat]
    induction k with
    | nil => simp
    | cons a k ih => have := hn a; rw [List.flatMap_cons, List.length_append, List.length_cons]; omega
  simp -implicitDefEqProofs []
  refine callW (count_ok hw (l.length : Int) (by omega) (by omega)) (by simp) fun r h0 t0 q0 => ?_
  rw [Int.toNat_natCast] at q0
  simp -implicitDefEqProofs []
  refine run_loop (fun m S h1 => ∃ (j : Nat) (t1 : Tok), m = l.length - j ∧ j ≤ l.length ∧ S 0 = .ptr b 0 ∧ S 2 = .fn F first caps ∧ S 12 = .sl .no (l.map encSpn) ∧ S 13 = .int .i64 l.length ∧ S 14 = .int .i64 j ∧ WTo h b t (ws ++ [l.length] ++ writeAll ((l.take j).flatMap fI)) h1 t1) ?_ l.length ?_
  rotate_left
  · exact ⟨0, t0, rfl, Nat.zero_le _, by simp, by simp, by simp, by simp, by simp, by simpa [writeAll] using q0⟩
  rintro m S h1 ⟨j, t1, hm, hj, s0, s2, s12, s13, s14, hq⟩ ih
  by_cases hlt : j < l.length
  · have he := flat_snoc fI hlt
    have i1 := idxOf_nat (k := .i64) hlt
    have hll := hlen (l.take j)
    rw [List.length_take] at hll
    have hws : (ws ++ [l.length] ++ writeAll ((l.take j).flatMap fI)).length ≤ 810000 := by rw [List.length_append, List.length_append]; simp only [List.length_cons, List.length_nil]; omega
    have hm1 := List.getElem_mem hlt
    have hbn := hq.keep.bn
    have z : ¬ b = h1.bn := by omega
    generalize hxe : l[j] = x at he hm1
    have k1 := (hq.al [.int .i64 0, .int .i64 0]).so (b' := h1.bn) hbn hb (encSpn x)
    simp -implicitDefEqProofs [s2, s12, s13, s14, hlt, hxe, encSpn]
    rw [encSpn] at k1
    refine callQ_c (one x hm1 _ t1 _ k1 hws) (by simp [hf, hc, encSpn]) fun r h2 ⟨t2, q2⟩ => ?_
    have k2 := k1.trans q2
    have hw9 : ws ++ [l.length] ++ writeAll ((l.take j).flatMap fI) ++ writeAll (fI x) = ws ++ [l.length] ++ writeAll ((l.take (j + 1)).flatMap fI) := by
      rw [he, writeAll_app]; simp
    rw [hw9] at k2
    simp -implicitDefEqProofs [s14, inc_i64 hlt (show l.length ≤ _ by omega), -Int.natCast_add]
    exact ih (l.length - (j + 1)) _ _ (by omega) ⟨j + 1, t2, rfl, by omega, by simp [s0], by simp [s2], by simp [s12], by simp [s13], by simp, k2⟩
  · obtain rfl : j = l.length := by omega
    rw [List.take_length] at hq
    simp -implicitDefEqProofs [s13, s14]
    exact ⟨t1, by simpa using hq⟩

set_option maxHeartbeats 1000000 in
theorem list_chg {h : H} {b : Nat} {t : Tok} {ws : List Nat} (hw : WB h b t ws) (l : List Chg) (h20 : l.length ≤ 100) (F : FuncId) (first caps : List AV) (hf : first.map wk = first) (hc : caps.map wk = caps) (fI : Chg → List Item) (hn : ∀ x, (writeAll (fI x)).length ≤ 10)
    (one : ∀ x ∈ l, ∀ (h1 : H) (t1 : Tok) (ws1 : List Nat), WTo h b t ws1 h1 t1 → ws1.length ≤ 810000 → WAdd F (first ++ [.agg (encChg x)] ++ caps) h1 b t1 (ws1 ++ writeAll (fI x))) (hl : ws.length ≤ 800000) :
    WAdd 116 [.ptr b 0, .sl .no (l.map encChg), .fn F first caps] h b t (ws ++ ([l.length] ++ writeAll (l.flatMap fI))) := by
  refine CallP.run hb116 ok116 (by simp) ?_
  have hb := hw.lt
  have hlen : ∀ k : List Chg, (writeAll (k.flatMap fI)).length ≤ 10 * k.length := fun k => by
    rw [writeAll_flat]
    induction k with
    | nil => simp
    | cons a k ih => have := hn a; rw [List.flatMap_cons, List.length_append, List.length_cons]; omega
  simp -implicitDefEqProofs []
  refine callW (count_ok hw (l.length : Int) (by omega) (by omega)) (by simp) fun r h0 t0 q0 => ?_
  rw [Int.toNat_natCast] at q0
  simp -implicitDefEqProofs []
  refine run_loop (fun m S h1 => ∃ (j : Nat) (t1 : Tok), m = l.length - j ∧ j ≤ l.length ∧ S 0 = .ptr b 0 ∧ S 2 = .fn F first caps ∧ S 12 = .sl .no (l.map encChg) ∧ S 13 = .int .i64 l.length ∧ S 14 = .int .i64 j ∧ WTo h b t (ws ++ [l.length] ++ writeAll ((l.take j).flatMap fI)) h1 t1) ?_ l.length ?_
  rotate_left
  · exact ⟨0, t0, rfl, Nat.zero_le _, by simp, by simp, by simp, by simp, by simp, by simpa [writeAll] using q0⟩
  rintro m S h1 ⟨j, t1, hm, hj, s0, s2, s12, s13, s14, hq⟩ ih
  by_cases hlt : j < l.length
  · have he := flat_snoc fI hlt
    have i1 := idxOf_nat (k := .i64) hlt
    have hll := hlen (l.take j)
    rw [List.length_take] at hll
    have hws : (ws ++ [l.length] ++ writeAll ((l.take j).flatMap fI)).length ≤ 810000 := by rw [List.length_append, List.length_append]; simp only [List.length_cons, List.length_nil]; omega
    have hm1 := List.getElem_mem hlt
    have hbn := hq.keep.bn
    have z : ¬ b = h1.bn := by omega
    generalize hxe : l[j] = x at he hm1
    have k1 := (hq.al [.int .i64 0, .bool false, .int .i64 0]).so (b' := h1.bn) hbn hb (encChg x)
    simp -implicitDefEqProofs [s2, s12, s13, s14, hlt, hxe, encChg]
    rw [encChg] at k1
    refine callQ_c (one x hm1 _ t1 _ k1 hws) (by simp [hf, hc, encChg]) fun r h2 ⟨t2, q2⟩ => ?_
    have k2 := k1.trans q2
    have hw9 : ws ++ [l.length] ++ writeAll ((l.take j).flatMap fI) ++ writeAll (fI x) = ws ++ [l.length] ++ writeAll ((l.take (j + 1)).flatMap fI) := by
      rw [he, writeAll_app]; simp
    rw [hw9] at k2
    simp -implicitDefEqProofs [s14, inc_i64 hlt (show l.length ≤ _ by omega), -Int.natCast_add]
    exact ih (l.length - (j + 1)) _ _ (by omega) ⟨j + 1, t2, rfl, by omega, by simp [s0], by simp [s2], by simp [s12], by simp [s13], by simp, k2⟩
  · obtain rfl : j = l.length := by omega
    rw [List.take_length] at hq
    simp -implicitDefEqProofs [s13, s14]
    exact ⟨t1, by simpa using hq⟩

theorem put1_ok {h : H} {b c : Nat} {t : Tok} {ws : List Nat} (hw : WB h b t ws) (hcl : c < h.bn) (hcb : ¬ c = b) (hcx : h.bx c = some [.ptr b 0]) (x : Spn) (hx : x.wf) (hl : ws.length ≤ 810000) :
    WAdd 114 [.agg (encSpn x), .ptr c 0] h b t (ws ++ writeAll (spnI x)) := by
  refine CallP.run hb114 ok114 (by simp) ?_
  have hb := hw.lt
  have zc : ¬ c = h.bn := by omega
  have zb : ¬ b = h.bn := by omega
  have hw0 := hw.alloc (encSpn x)
  have bX : ∀ (h' : H) (t' : Tok) (ws' : List Nat), WTo (h.alloc (encSpn x)) b t ws' h' t' → h.bn < h'.bn ∧ c < h'.bn ∧ h'.bx c = some [.ptr b 0] ∧ h'.bx h.bn = some (encSpn x) := fun h' t' ws' q =>
    ⟨Nat.lt_of_lt_of_le (by simp) q.keep.bn, Nat.lt_of_lt_of_le (by simp; omega) q.keep.bn, by rw [q.keep.bx _ (by simp; omega) hcb]; simp [zc, hcx], by rw [q.keep.bx _ (by simp) (fun e => zb e.symm)]; simp⟩
  rw [encSpn] at hw0 bX ⊢
  simp -implicitDefEqProofs [hcx, zc, show c < h.bn + 1 by omega]
  refine callW (count_ok hw0 x.lo hx.1.2 (by omega)) (by simp) fun r h1 t1 q1 => ?_
  have k1 := q1
  obtain ⟨n1, m1, x1, y1⟩ := bX _ _ _ k1
  simp -implicitDefEqProofs [n1, m1, x1, y1]
  refine callW (count_ok k1.wb x.hi hx.2.2 (by simp only [List.length_append, List.length_cons, List.length_nil]; omega)) (by simp) fun r h2 t2 q2 => ?_
  have k2 := k1.trans q2
  try simp -implicitDefEqProofs []
  refine ⟨t2, WTo.alloc (cs := encSpn x) ?_⟩
  rw [w_spn]
  simpa [encSpn] using k2

theorem put2_ok {h : H} {b c : Nat} {t : Tok} {ws : List Nat} (hw : WB h b t ws) (hcl : c < h.bn) (hcb : ¬ c = b) (hcx : h.bx c = some [.ptr b 0]) (x : Chg) (hx : x.wf) (hl : ws.length ≤ 810000) :
    WAdd 117 [.agg (encChg x), .ptr c 0] h b t (ws ++ writeAll (chgI x)) := by
  refine CallP.run hb117 ok117 (by simp) ?_
  have hb := hw.lt
  have zc : ¬ c = h.bn := by omega
  have zb : ¬ b = h.bn := by omega
  have hw0 := hw.alloc (encChg x)
  have bX : ∀ (h' : H) (t' : Tok) (ws' : List Nat), WTo (h.alloc (encChg x)) b t ws' h' t' → h.bn < h'.bn ∧ c < h'.bn ∧ h'.bx c = some [.ptr b 0] ∧ h'.bx h.bn = some (encChg x) := fun h' t' ws' q =>
    ⟨Nat.lt_of_lt_of_le (by simp) q.keep.bn, Nat.lt_of_lt_of_le (by simp; omega) q.keep.bn, by rw [q.keep.bx _ (by simp; omega) hcb]; simp [zc, hcx], by rw [q.keep.bx _ (by simp) (fun e => zb e.symm)]; simp⟩
  rw [encChg] at hw0 bX ⊢
  simp -implicitDefEqProofs [hcx, zc, show c < h.bn + 1 by omega]
  refine callW (count_ok hw0 x.key hx.1.2 (by omega)) (by simp) fun r h1 t1 q1 => ?_
  have k1 := q1
  obtain ⟨n1, m1, x1, y1⟩ := bX _ _ _ k1
  simp -implicitDefEqProofs [n1, m1, x1, y1]
  refine callW (wflag_ok k1.wb x.gone (by simp only [List.length_append, List.length_cons, List.length_nil]; omega)) (by simp) fun r h2 t2 q2 => ?_
  have k2 := k1.trans q2
  obtain ⟨n2, m2, x2, y2⟩ := bX _ _ _ k2
  simp -implicitDefEqProofs [n2, m2, x2, y2]
  refine callW (wsigned_ok k2.wb x.value hx.2.1 hx.2.2 (by simp only [List.length_append, List.length_cons, List.length_nil]; omega)) (by simp) fun r h3 t3 q3 => ?_
  have k3 := k2.trans q3
  try simp -implicitDefEqProofs []
  refine ⟨t3, WTo.alloc (cs := encChg x) ?_⟩
  rw [w_chg]
  simpa [encChg] using k3
end Go.Proofs

/- The program's writer of what a step's record has. -/
namespace Go.Proofs
open Go Go.RowKit Go.Am

theorem spnsW (l : List Spn) : writeAll (spnsI l) = [l.length] ++ writeAll (l.flatMap spnI) := by rw [spnsI, writeAll_cons, w_iN, Int.toNat_natCast]
theorem chgsW (l : List Chg) : writeAll (chgsI l) = [l.length] ++ writeAll (l.flatMap chgI) := by rw [chgsI, writeAll_cons, w_iN, Int.toNat_natCast]
theorem argsW (l : List Int) : writeAll (argsI l) = [l.length] ++ writeAll (l.flatMap argI) := by rw [argsI, writeAll_cons, w_iN, Int.toNat_natCast]
theorem spnsW_len (l : List Spn) : (writeAll (spnsI l)).length = 1 + 2 * l.length := by
  rw [spnsW, writeAll_flat, List.length_append, flat_len _ 2 (fun x => by rw [w_spn]; rfl)]; rfl
theorem chgsW_len (l : List Chg) : (writeAll (chgsI l)).length = 1 + 3 * l.length := by
  rw [chgsW, writeAll_flat, List.length_append, flat_len _ 3 (fun x => by rw [w_chg]; rfl)]; rfl
theorem argsW_len (l : List Int) : (writeAll (argsI l)).length = 1 + l.length := by
  rw [argsW, writeAll_flat, List.length_append, flat_len _ 1 (fun x => by rw [w_arg]; rfl)]; simp

set_option maxHeartbeats 4000000 in
theorem putStep_ok {h : H} {b : Nat} {t : Tok} {ws : List Nat} (hw : WB h b t ws) (x : Recd) (hx : x.wf) (l1 : x.node.reads.length ≤ 100) (l2 : x.node.writes.length ≤ 100) (l3 : x.changes.length ≤ 100) (hl : ws.length ≤ 700000) :
    WAdd 71 [.ptr b 0, .agg (encRecd x)] h b t (ws ++ writeAll (stepI x)) := by
  obtain ⟨r0, r1, r2, r3, ra⟩ := regs_four hx.2.2.2.2.2.2.1.1
  obtain ⟨_, _, _, _, _, ⟨n1, n2, n3, ⟨_, n4⟩, ⟨_, n5⟩⟩, ⟨_, xr⟩, ⟨_, xc⟩⟩ := hx
  rw [encRecd_cells ra]
  refine CallP.run hb71 ok71 (by simp) ?_
  have hb := hw.lt
  have z0 : ¬ b = h.bn := by omega
  have z1 : ¬ b = h.bn + 1 := by omega
  have z2 : ¬ b = h.bn + 1 + 1 := by omega
  simp -implicitDefEqProofs [cellsR]
  generalize hh0 : (H.set _ _ _ : H) = h0
  have kk : WTo h b t ws h0 t := by
    rw [← hh0]
    exact (((WTo.refl hw).al _).al _ |>.al _).so (by omega) hb _
  have a1 : h0.bn = h.bn + 3 := by rw [← hh0]; simp
  have a2 : h0.bx h.bn = some [.ptr b 0] := by rw [← hh0]; simp
  have a3 : h0.bx (h.bn + 1) = some (cellsR x r0 r1 r2 r3) := by rw [← hh0]; simp [cellsR]
  have a4 : h0.bx (h.bn + 1 + 1) = some (encNod x.node) := by rw [← hh0]; simp [encNod]
  clear hh0
  have bX : ∀ (h' : H) (t' : Tok) (ws' : List Nat), WTo h0 b t ws' h' t' → h.bn + 1 + 1 < h'.bn ∧ h'.bx h.bn = some [.ptr b 0] ∧ h'.bx (h.bn + 1) = some (cellsR x r0 r1 r2 r3) ∧ h'.bx (h.bn + 1 + 1) = some (encNod x.node) := fun h' t' ws' q =>
    ⟨Nat.lt_of_lt_of_le (by omega) q.keep.bn, by rw [q.keep.bx _ (by omega) (fun e => z0 e.symm), a2], by rw [q.keep.bx _ (by omega) (fun e => z1 e.symm), a3], by rw [q.keep.bx _ (by omega) (fun e => z2 e.symm), a4]⟩
  rw [cellsR, encNod] at bX
  refine callW (count_ok kk.wb x.node.saga n1.2 (by omega)) (by simp) fun r h1 t1 q1 => ?_
  obtain ⟨m1, x1, y1, w1⟩ := bX _ _ _ q1
  simp -implicitDefEqProofs [m1, x1, w1, show h.bn < h1.bn by omega]
  refine callW (count_ok q1.wb x.node.cls n2.2 (by simp only [List.length_append, List.length_cons, List.length_nil]; omega)) (by simp) fun r h2 t2 q2 => ?_
  have k2 := q1.trans q2
  obtain ⟨m2, x2, y2, w2⟩ := bX _ _ _ k2
  simp -implicitDefEqProofs [m2, x2, w2, show h.bn < h2.bn by omega]
  refine callW (count_ok k2.wb x.node.step n3.2 (by simp only [List.length_append, List.length_cons, List.length_nil]; omega)) (by simp) fun r h3 t3 q3 => ?_
  have k3 := k2.trans q3
  obtain ⟨m3, x3, y3, w3⟩ := bX _ _ _ k3
  simp -implicitDefEqProofs [m3, x3, w3, show h.bn < h3.bn by omega]
  refine callW (wflag_ok k3.wb x.node.back (by simp only [List.length_append, List.length_cons, List.length_nil]; omega)) (by simp) fun r h4 t4 q4 => ?_
  have k4 := k3.trans q4
  obtain ⟨m4, x4, y4, w4⟩ := bX _ _ _ k4
  have hhead : ws ++ [x.node.saga.toNat] ++ [x.node.cls.toNat] ++ [x.node.step.toNat] ++ [if x.node.back = true then 1 else 0] = ws ++ writeAll [iN x.node.saga 12, iN x.node.cls 4, iN x.node.step 4, iF x.node.back] := by simp [writeAll, w_iF, w_iN]
  rw [hhead] at k4
  simp -implicitDefEqProofs [m4, w4]
  generalize hS : (su _ 33 _ : Slots) = S
  have s2 : S 2 = .ptr h.bn 0 := by rw [← hS]; simp
  have s3 : S 3 = .ptr (h.bn + 1) 0 := by rw [← hS]; simp
  have s31 : S 31 = .sl .full [[.sl .no (x.node.reads.map encSpn)], [.sl .no (x.node.writes.map encSpn)]] := by rw [← hS]; simp
  have s32 : S 32 = .int .i64 2 := by rw [← hS]; simp
  have s33 : S 33 = .int .i64 0 := by rw [← hS]; simp
  clear hS
  generalize hW : ws ++ writeAll [iN x.node.saga 12, iN x.node.cls 4, iN x.node.step 4, iF x.node.back] = wa at k4
  have hwa : wa.length = ws.length + 4 := by rw [← hW, List.length_append]; simp [writeAll, w_iN, w_iF]
  have e1 := spnsW_len x.node.reads
  have e2 := spnsW_len x.node.writes
  refine run_loop (fun m S h1 => ∃ (j : Nat) (t1 : Tok), m = 2 - j ∧ j ≤ 2 ∧ S 2 = .ptr h.bn 0 ∧ S 3 = .ptr (h.bn + 1) 0 ∧ S 31 = .sl .full [[.sl .no (x.node.reads.map encSpn)], [.sl .no (x.node.writes.map encSpn)]] ∧ S 32 = .int .i64 2 ∧ S 33 = .int .i64 j ∧ WTo h0 b t (wa ++ writeAll (([x.node.reads, x.node.writes].take j).flatMap spnsI)) h1 t1) ?_ 2 ?_
  rotate_left
  · exact ⟨0, t4, rfl, Nat.zero_le _, s2, s3, s31, s32, s33, by simpa [writeAll] using k4⟩
  clear s2 s3 s31 s32 s33
  rintro m S h5 ⟨j, t5, hm, hj, s2, s3, s31, s32, s33, k5⟩ ih
  obtain ⟨m5, x5, y5, w5⟩ := bX _ _ _ k5
  have hls : ∀ (l : List Spn) (ws1 : List Nat) (k : WTo h0 b t ws1 h5 t5), l.length ≤ 100 → (∀ y ∈ l, y.wf) → ws1.length ≤ 800000 → WAdd 113 [.ptr b 0, .sl .no (l.map encSpn), .fn 114 [] [.ptr h.bn 0]] h5 b t5 (ws1 ++ writeAll (spnsI l)) := fun l ws1 k hl1 hl2 hl3 => by
    rw [spnsW]
    refine list_spn k.wb l hl1 _ [] [.ptr h.bn 0] rfl (by simp) spnI (fun x => by rw [w_spn]; simp) (fun y hy h6 t6 ws6 k6 hl6 => ?_) hl3
    exact put1_ok k6.wb (Nat.lt_of_lt_of_le (by omega) k6.keep.bn) (fun e => z0 e.symm) (by rw [k6.keep.bx _ (by omega) (fun e => z0 e.symm), x5]) y (hl2 y hy) hl6
  have c5 : h.bn < h5.bn := by omega
  by_cases hj0 : j = 0
  · subst hj0
    have k5' : WTo h0 b t wa h5 t5 := by simpa [writeAll] using k5
    simp -implicitDefEqProofs [s2, s31, s32, s33, x5, c5]
    refine callW (hls x.node.reads wa k5' l1 n4 (by omega)) (by simp) fun r h6 t6 q6 => ?_
    have k6 := k5'.trans q6
    simp -implicitDefEqProofs [s33]
    exact ih 1 _ _ (by omega) ⟨1, t6, rfl, by omega, by simp [s2], by simp [s3], by simp [s31], by simp [s32], by simp; decide, by simpa using k6⟩
  by_cases hj1 : j = 1
  · subst hj1
    have k5' : WTo h0 b t (wa ++ writeAll (spnsI x.node.reads)) h5 t5 := by simpa using k5
    simp -implicitDefEqProofs [s2, s31, s32, s33, x5, c5]
    refine callW (hls x.node.writes _ k5' l2 n5 (by rw [List.length_append]; omega)) (by simp) fun r h6 t6 q6 => ?_
    have k6 := k5'.trans q6
    simp -implicitDefEqProofs [s33]
    exact ih 0 _ _ (by omega) ⟨2, t6, rfl, by omega, by simp [s2], by simp [s3], by simp [s31], by simp [s32], by simp; decide, by simpa [writeAll_app] using k6⟩
  obtain rfl : j = 2 := by omega
  have k5' : WTo h0 b t (wa ++ writeAll (spnsI x.node.reads ++ spnsI x.node.writes)) h5 t5 := by simpa using k5
  simp -implicitDefEqProofs [s3, s32, s33, y5, show h.bn + 1 < h5.bn by omega]
  clear hls ih s31 s32 s33
  generalize hW2 : wa ++ writeAll (spnsI x.node.reads ++ spnsI x.node.writes) = wb at k5'
  have hwb : wb.length ≤ ws.length + 1000 := by rw [← hW2, List.length_append, writeAll_app, List.length_append]; omega
  refine run_loop (fun m S h1 => ∃ (j : Nat) (t1 : Tok), m = 4 - j ∧ j ≤ 4 ∧ S 2 = .ptr h.bn 0 ∧ S 3 = .ptr (h.bn + 1) 0 ∧ S 43 = .agg [.int .i64 r0, .int .i64 r1, .int .i64 r2, .int .i64 r3] ∧ S 44 = .int .i64 j ∧ WTo h0 b t (wb ++ writeAll (([r0, r1, r2, r3].take j).map iX)) h1 t1) ?_ 4 ?_
  rotate_left
  · exact ⟨0, t5, rfl, Nat.zero_le _, by simp [s2], by simp [s3], by simp, by simp, by simpa [writeAll] using k5'⟩
  clear s2 s3
  rintro m S h6 ⟨j, t6, hm, hj, s2, s3, s43, s44, k6⟩ ih
  obtain ⟨m6, x6, y6, w6⟩ := bX _ _ _ k6
  have c6 : h.bn < h6.bn := by omega
  rw [ra] at xr
  have hw6 : (wb ++ writeAll (([r0, r1, r2, r3].take j).map iX)).length ≤ 800000 := by
    have : (writeAll (([r0, r1, r2, r3].take j).map iX)).length ≤ 4 := by
      have e : ∀ l : List Int, (writeAll (l.map iX)).length = l.length := fun l => by
        induction l with
        | nil => rfl
        | cons a l ih => rw [List.map_cons, writeAll_cons, List.length_append, ih, w_iX, List.length_cons, List.length_cons, List.length_nil]; omega
      rw [e, List.length_take]
      exact Nat.min_le_right _ _
    rw [List.length_append]
    omega
  rcases (by omega : j = 0 ∨ j = 1 ∨ j = 2 ∨ j = 3 ∨ j = 4) with rfl | rfl | rfl | rfl | rfl
  · have hr := xr r0 (by simp)
    simp -implicitDefEqProofs [s2, s43, s44, x6, c6]
    refine callW (wsigned_ok k6.wb r0 hr.1 hr.2 (by omega)) (by simp) fun r h7 t7 q7 => ?_
    have k7 := k6.trans q7
    simp -implicitDefEqProofs [s44]
    exact ih 3 _ _ (by omega) ⟨1, t7, rfl, by omega, by simp [s2], by simp [s3], by simp [s43], by simp; decide, by simpa [writeAll, w_iX] using k7⟩
  · have hr := xr r1 (by simp)
    simp -implicitDefEqProofs [s2, s43, s44, x6, c6]
    refine callW (wsigned_ok k6.wb r1 hr.1 hr.2 (by omega)) (by simp) fun r h7 t7 q7 => ?_
    have k7 := k6.trans q7
    simp -implicitDefEqProofs [s44]
    exact ih 2 _ _ (by omega) ⟨2, t7, rfl, by omega, by simp [s2], by simp [s3], by simp [s43], by simp; decide, by simpa [writeAll, w_iX] using k7⟩
  · have hr := xr r2 (by simp)
    simp -implicitDefEqProofs [s2, s43, s44, x6, c6]
    refine callW (wsigned_ok k6.wb r2 hr.1 hr.2 (by omega)) (by simp) fun r h7 t7 q7 => ?_
    have k7 := k6.trans q7
    simp -implicitDefEqProofs [s44]
    exact ih 1 _ _ (by omega) ⟨3, t7, rfl, by omega, by simp [s2], by simp [s3], by simp [s43], by simp; decide, by simpa [writeAll, w_iX] using k7⟩
  · have hr := xr r3 (by simp)
    simp -implicitDefEqProofs [s2, s43, s44, x6, c6]
    refine callW (wsigned_ok k6.wb r3 hr.1 hr.2 (by omega)) (by simp) fun r h7 t7 q7 => ?_
    have k7 := k6.trans q7
    simp -implicitDefEqProofs [s44]
    exact ih 0 _ _ (by omega) ⟨4, t7, rfl, by omega, by simp [s2], by simp [s3], by simp [s43], by simp; decide, by simpa [writeAll, w_iX] using k7⟩
  simp -implicitDefEqProofs [s2, s3, s44, x6, y6, c6, show h.bn + 1 < h6.bn by omega]
  have hwc : (wb ++ writeAll ([r0, r1, r2, r3].map iX)).length ≤ 800000 := by simpa using hw6
  have k6' : WTo h0 b t (wb ++ writeAll ([r0, r1, r2, r3].map iX)) h6 t6 := by simpa using k6
  have hch : WAdd 116 [.ptr b 0, .sl .no (x.changes.map encChg), .fn 117 [] [.ptr h.bn 0]] h6 b t6 (wb ++ writeAll ([r0, r1, r2, r3].map iX) ++ writeAll (chgsI x.changes)) := by
    rw [chgsW]
    refine list_chg k6'.wb x.changes l3 _ [] [.ptr h.bn 0] rfl (by simp) chgI (fun x => by rw [w_chg]; simp) (fun y hy h7 t7 ws7 k7 hl7 => ?_) hwc
    exact put2_ok k7.wb (Nat.lt_of_lt_of_le (by omega) k7.keep.bn) (fun e => z0 e.symm) (by rw [k7.keep.bx _ (by omega) (fun e => z0 e.symm), x6]) y (xc y hy) hl7
  refine callW hch (by simp) fun r h7 t7 q7 => ?_
  have k7 := k6'.trans q7
  try simp -implicitDefEqProofs []
  refine ⟨t7, ?_⟩
  have e : ws ++ writeAll (stepI x) = wb ++ writeAll ([r0, r1, r2, r3].map iX) ++ writeAll (chgsI x.changes) := by
    rw [← hW2, ← hW, stepI, ra, writeAll_app, writeAll_app, writeAll_app]
    simp only [List.append_assoc]
  rw [e]
  exact kk.trans k7
end Go.Proofs
