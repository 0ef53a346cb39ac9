/- What the functions that the statement reaches do: their contracts; and what follows of it. -/
import Derived.Test.YtejbnedogieocaaGreatSCatWords7
import Derived.Test.YtejbnedogieocaaGreatSCatWords8
import Derived.Test.YtejbnedogieocaaGreatSCatWords1
import Derived.Test.YtejbnedogieocaaGreatSCatWords5
import Derived.Test.YtejbnedogieocaaGreatSCatWords6
import Derived.Test.YtejbnedogieocaaGreatK4
/- What is read as a catalogue: plain laws. -/
namespace Go.Proofs
open Go Go.RowKit Go.Am

def rdClsM : Rd Cls := fun l => (rdCls l).bind fun x => if clsMay x.1 = true then some x else none
theorem clsR_M (s : RS) : clsR s = s.bind rdClsM := by cases s <;> rfl
theorem clsRV_M (s : RS) : ∃ ok, clsRV s = .tup [.agg (encCls (runS rdClsM cls0 s).1), .bool ok] := by
  unfold clsRV runS
  rw [clsR_M]
  cases s.bind rdClsM with
  | none => exact ⟨_, rfl⟩
  | some x => exact ⟨_, rfl⟩
theorem clsRS_M (s : RS) : clsRS s = (runS rdClsM cls0 s).2 := by
  unfold clsRS runS
  rw [clsR_M]
  cases s.bind rdClsM <;> rfl
theorem rdClsM_ok : RdOK rdClsM := fun l a l' h => by
  simp only [rdClsM, Option.bind_eq_some_iff] at h
  obtain ⟨x, h1, h2⟩ := h
  split at h2
  · cases h2; exact rdCls_ok l a l' h1
  · cases h2
theorem rdClsM_all : RdAll rdClsM Cls.wf := fun l a l' hw h => by
  simp only [rdClsM, Option.bind_eq_some_iff] at h
  obtain ⟨x, h1, h2⟩ := h
  split at h2
  · cases h2; exact rdCls_all l a l' hw h1
  · cases h2

/-- Breakpoints, as they were read, row by row. -/
def lay (n : Nat) (B : List Int) : List Int := (List.range 16).map fun i => if i / 4 < n ∧ i % 4 < n then B.getD (i / 4 * n + i % 4) 0 else 0
theorem lay_len (n : Nat) (B : List Int) : (lay n B).length = 16 := by simp [lay]
theorem lay_get (n : Nat) (B : List Int) {i : Nat} (hi : i < (lay n B).length) : (lay n B)[i] = if i / 4 < n ∧ i % 4 < n then B.getD (i / 4 * n + i % 4) 0 else 0 := by simp [lay]
theorem lay_nil (n : Nat) : lay n [] = List.replicate 16 0 := by
  apply List.ext_getElem
  · simp [lay_len]
  intro i h1 h2
  rw [lay_get, List.getElem_replicate]; simp
theorem lay_step {n : Nat} (n4 : n ≤ 4) (B : List Int) (v : Int) {c d : Nat} (hc : c < n) (hd : d < n) (hB : B.length = c * n + d) : (lay n B).set (c * 4 + d) v = lay n (B ++ [v]) := by
  apply List.ext_getElem
  · simp [lay_len]
  intro i h1 h2
  have hi : i < 16 := by rw [lay_len] at h2; exact h2
  rw [List.getElem_set, lay_get, lay_get]
  by_cases h : c * 4 + d = i
  · subst h
    have e1 : (c * 4 + d) / 4 = c := by omega
    have e2 : (c * 4 + d) % 4 = d := by omega
    rw [if_pos rfl, e1, e2, if_pos ⟨hc, hd⟩, ← hB]
    simp
  · rw [if_neg h]
    by_cases hh : i / 4 < n ∧ i % 4 < n
    · rw [if_pos hh, if_pos hh]
      have hne : i / 4 * n + i % 4 ≠ c * n + d := fun he => by
        have q1 : i / 4 = c := by
          rcases Nat.lt_trichotomy (i / 4) c with q | q | q
          · have := Nat.mul_le_mul_right n (show i / 4 + 1 ≤ c by omega)
            rw [Nat.add_mul] at this; omega
          · exact q
          · have := Nat.mul_le_mul_right n (show c + 1 ≤ i / 4 by omega)
            rw [Nat.add_mul] at this; omega
        rw [q1] at he
        omega
      simp only [List.getD_eq_getElem?_getD]
      by_cases hlt : i / 4 * n + i % 4 < B.length
      · rw [List.getElem?_append_left hlt]
      · rw [List.getElem?_eq_none (by omega), List.getElem?_eq_none (by simp; omega)]
    · rw [if_neg hh, if_neg hh]
theorem lay_stepM {n : Nat} (n4 : n ≤ 4) (B : List Int) (v : Int) {c d : Nat} (hc : c < n) (hd : d < n) (hB : B.length = c * n + d) : List.take (c * 4 + d) ((lay n B).map (AV.int .i64)) ++ AV.int .i64 v :: List.drop (c * 4 + d + 1) ((lay n B).map (AV.int .i64)) = (lay n (B ++ [v])).map (AV.int .i64) := by
  rw [← lay_step n4 B v hc hd hB, List.map_set, List.set_eq_take_append_cons_drop, if_pos (by simp [lay_len]; omega)]

def rdCat : Rd Ctlg := (rdCount 4).bind fun n => (Rd.rep rdClsM n.toNat).bind fun L => (Rd.rep (rdCount 255) (n.toNat * n.toNat)).bind fun B => Rd.pure ⟨L, lay n.toNat B⟩
theorem rdCat_ok : RdOK rdCat := (rdCount_ok _).bind fun _ => (rdClsM_ok.rep _).bind fun _ => ((rdCount_ok _).rep _).bind fun _ => RdOK.pure _
theorem rdCat_all : RdAll rdCat Ctlg.wf := (rdCount_all 4).bind (rdCount_ok _) fun n hn => (rdClsM_all.rep rdClsM_ok n.toNat).bind (rdClsM_ok.rep _) fun L hL => ((rdCount_all 255).rep (rdCount_ok _) _).bind ((rdCount_ok _).rep _) fun B hB => RdAll.pure
  ⟨⟨by simp only [maxLen]; omega, hL.2⟩, lay_len _ _, fun y hy => by
    obtain ⟨i, hi, rfl⟩ := List.mem_iff_getElem.1 hy
    rw [lay_get]
    split
    · simp only [List.getD_eq_getElem?_getD]
      rcases hq : B[i / 4 * n.toNat + i % 4]? with _ | v
      · simp [inI]
      · have := hB.2 v (List.mem_of_getElem? hq)
        simp only [Option.getD_some, inI]; omega
    · simp [inI]⟩

def cat0 : Ctlg := ⟨[], List.replicate 16 0⟩
theorem cat0_wf : cat0.wf := ⟨⟨by decide, by simp [cat0]⟩, by decide, fun y hy => by have := List.eq_of_mem_replicate hy; subst this; simp [inI]⟩
def catR (s : RS) : Option (Ctlg × List Nat) := (s.bind rdCat).bind fun x => if catMay x.1 = true then some x else none
def catRV (s : RS) : AV := match catR s with
  | some (c, _) => .tup [.agg (encCtlg c), .bool true]
  | none => .tup [.agg (encCtlg cat0), .bool false]
def catRS (s : RS) : RS := (catR s).map (·.2)
theorem pure_catRV (s : RS) : PureV (catRV s) := by
  unfold catRV
  split <;> exact .tup (pures_cons (.agg (pure_encCtlg _)) (pures1 (.bool _)))
theorem catRS_bd {s : RS} (hs : Bd s) : Bd (catRS s) := fun l h => by
  simp only [catRS, catR, Option.map_eq_some_iff, Option.bind_eq_some_iff] at h
  obtain ⟨x, ⟨y, ⟨l0, h1, h2⟩, h3⟩, h4⟩ := h
  split at h3
  · cases h3
    have := rdCat_ok l0 x.1 x.2 h2
    rw [h4] at this
    exact ⟨Nat.le_trans this.1 (hs l0 h1).1, fun w hw => (hs l0 h1).2 w (this.2 w hw)⟩
  · cases h3
theorem catR_none {s : RS} {c : Ctlg} (h : Got rdCat s c none) : catR s = none := by
  unfold Got at h
  unfold catR
  cases hp : s.bind rdCat with
  | none => rfl
  | some x => rw [hp] at h; obtain ⟨_, h2⟩ := h; cases h2
theorem catR_some {s : RS} {c : Ctlg} {l : List Nat} (h : Got rdCat s c (some l)) : catR s = if catMay c = true then some (c, l) else none := by
  unfold Got at h
  unfold catR
  cases hp : s.bind rdCat with
  | none => rw [hp] at h; cases h
  | some x => rw [hp] at h; obtain ⟨rfl, h2⟩ := h; cases h2; rfl
theorem catR_wf {s : RS} (hs : Bd s) {c : Ctlg} {l : List Nat} (h : catR s = some (c, l)) : c.wf := by
  simp only [catR, Option.bind_eq_some_iff] at h
  obtain ⟨x, ⟨l0, h1, h2⟩, h3⟩ := h
  split at h3
  · cases h3
    exact rdCat_all l0 c l (hs l0 h1).2 h2
  · cases h3
end Go.Proofs

/- What is written of a template, an instruction, a span, a program, a footprint, a class, as items; the program's writers. -/
namespace Go.Proofs
open Go Go.RowKit Go.Am

def iN (n most : Int) : Item := ⟨0, n, most, 0, ⟨#[]⟩, []⟩
def iX (x : Int) : Item := ⟨1, 0, 0, x, ⟨#[]⟩, []⟩
def iF (r : Bool) : Item := ⟨2, if r then 1 else 0, 0, 0, ⟨#[]⟩, []⟩
def iS (s : ByteArray) : Item := ⟨3, 0, 0, 0, s, []⟩
def keyItems (k : KeyT) : List Item := [iX k.arg, iN k.base 999]
def instItems (x : Inst) : List Item := [iN x.op 255, iN x.a 255, iN x.b 255, iN x.c 255] ++ (keyItems x.k ++ keyItems x.l) ++ [iX x.x]
def progItems (l : List Inst) : List Item := iN l.length 8 :: l.flatMap instItems
def spanItems (s : SpanT) : List Item := (keyItems s.lo ++ keyItems s.hi) ++ [iF s.write]
def footItems (l : List SpanT) : List Item := iN l.length 4 :: l.flatMap spanItems
def stpItems (s : Stp) : List Item := progItems s.code ++ footItems s.foot
def clsItems (c : Cls) : List Item := [iS c.name, iN c.args 3, iN c.steps.length 4] ++ ((c.steps.zip c.comps).flatMap fun p => stpItems p.1 ++ stpItems p.2) ++ [iF c.resume]

theorem writeAll_app (a b : List Item) : writeAll (a ++ b) = writeAll a ++ writeAll b := by simp [writeAll]
theorem w_iN (n most : Int) : writeW (iN n most) = [n.toNat] := rfl
theorem w_iX (x : Int) : writeW (iX x) = [signed x] := rfl
theorem w_iF (r : Bool) : writeW (iF r) = [if r then 1 else 0] := by cases r <;> rfl
theorem w_iS (s : ByteArray) : writeW (iS s) = textW s := rfl
theorem w_keys (k l : KeyT) : writeAll (keyItems k ++ keyItems l) = [k, l].flatMap fun k => [signed k.arg, k.base.toNat] := rfl
theorem w_inst (x : Inst) : writeAll (instItems x) = [x.op, x.a, x.b, x.c].map Int.toNat ++ ([x.k, x.l].flatMap fun k => [signed k.arg, k.base.toNat]) ++ [signed x.x] := rfl
theorem w_span (s : SpanT) : writeAll (spanItems s) = ([s.lo, s.hi].flatMap fun k => [signed k.arg, k.base.toNat]) ++ [if s.write then 1 else 0] := by
  rw [spanItems, writeAll_app, w_keys]; simp [writeAll, w_iF]
theorem w_instLen (x : Inst) : (writeAll (instItems x)).length = 9 := rfl
theorem w_spanLen (s : SpanT) : (writeAll (spanItems s)).length = 5 := by rw [w_span]; rfl
theorem writeAll_flat {α : Type} (f : α → List Item) (l : List α) : writeAll (l.flatMap f) = l.flatMap fun x => writeAll (f x) := by
  simp [writeAll, List.flatMap_assoc]
theorem flat_snoc {α β : Type} (f : α → List β) {l : List α} {j : Nat} (hj : j < l.length) : (l.take (j + 1)).flatMap f = (l.take j).flatMap f ++ f l[j] := by
  rw [List.take_succ_eq_append_getElem hj, List.flatMap_append]; simp
theorem flat_len {α β : Type} (f : α → List β) (n : Nat) (hf : ∀ x, (f x).length = n) (l : List α) : (l.flatMap f).length = n * l.length := by
  induction l with
  | nil => rfl
  | cons x l ih => rw [List.flatMap_cons, List.length_append, hf, ih, List.length_cons, Nat.mul_add]; omega

theorem WTo.refl {h : H} {b : Nat} {t : Tok} {ws : List Nat} (hw : WB h b t ws) : WTo h b t ws h t := ⟨hw, .inl rfl, HF.refl _ _ _⟩
theorem WTo.al {h h1 : H} {b : Nat} {t t1 : Tok} {ws : List Nat} (a : WTo h b t ws h1 t1) (cs : List AV) : WTo h b t ws (h1.alloc cs) t1 := ⟨a.wb.alloc cs, a.next, a.keep.trans (HF.alloc _ _ _ _)⟩
theorem WTo.so {h h1 : H} {b b' : Nat} {t t1 : Tok} {ws : List Nat} (a : WTo h b t ws h1 t1) (hn : h.bn ≤ b') (hb : b < h.bn) (cs : List AV) : WTo h b t ws (h1.set b' cs) t1 :=
  ⟨⟨by simpa using a.wb.lt, by simp [show ¬ b = b' by omega, a.wb.bx], by simpa using a.wb.live⟩, a.next, a.keep.trans' (HF.set (B := (· = b')) _ rfl) (fun x hx e => by have e : x = b' := e; omega) (fun _ _ h => h)⟩

theorem counts_ok {h : H} {b : Nat} {t : Tok} {ws : List Nat} (hw : WB h b t ws) (ns : List Int) (hn : ∀ n ∈ ns, n ≤ 9223372036854775807) (hl : ws.length + ns.length ≤ 900000) : WAdd 84 [.ptr b 0, .sl .no (ns.map encN)] h b t (ws ++ ns.map Int.toNat) := by
  refine CallP.run hb84 ok84 (by simp) ?_
  simp -implicitDefEqProofs []
  refine run_loop (fun m S h1 => ∃ (j : Nat) (t1 : Tok), m = ns.length - j ∧ j ≤ ns.length ∧ S 0 = .ptr b 0 ∧ S 6 = .sl .no (ns.map encN) ∧ S 7 = .int .i64 ns.length ∧ S 8 = .int .i64 j ∧ WTo h b t (ws ++ (ns.take j).map Int.toNat) h1 t1) ?_ ns.length ?_
  rotate_left
  · exact ⟨0, t, by simpa using WTo.refl hw⟩
  rintro m S h1 ⟨j, t1, hm, hj, s0, s6, s7, s8, hq⟩ ih
  by_cases hlt : j < ns.length
  · have he : ns.take (j + 1) = ns.take j ++ [ns[j]] := by rw [List.take_succ_eq_append_getElem hlt]
    simp -implicitDefEqProofs [s0, s6, s7, s8, hlt, encN]
    refine callW (count_ok hq.wb ns[j] (hn _ (List.getElem_mem hlt)) (by simp; omega)) (by simp) fun r h2 t2 q2 => ?_
    have q3 := hq.trans q2
    rw [List.append_assoc, show (ns.take j).map Int.toNat ++ [ns[j].toNat] = (ns.take (j + 1)).map Int.toNat by rw [he, List.map_append]; rfl] at q3
    simp -implicitDefEqProofs [s8, inc_i64 hlt (show ns.length ≤ _ by omega), -Int.natCast_add]
    exact ih (ns.length - (j + 1)) _ _ (by omega) ⟨j + 1, t2, rfl, by omega, by simp [s0], by simp [s6], by simp [s7], by simp, q3⟩
  · obtain rfl : j = ns.length := by omega
    rw [List.take_length] at hq
    simp -implicitDefEqProofs [s7, s8]
    exact ⟨t1, hq⟩

theorem templates_ok {h : H} {b : Nat} {t : Tok} {ws : List Nat} (hw : WB h b t ws) (ks : List KeyT) (hk : ∀ k ∈ ks, k.wf) (hl : ws.length + 2 * ks.length ≤ 900000) : WAdd 86 [.ptr b 0, .sl .no (ks.map encKeyT)] h b t (ws ++ ks.flatMap fun k => [signed k.arg, k.base.toNat]) := by
  refine CallP.run hb86 ok86 (by simp) ?_
  have hb := hw.lt
  simp -implicitDefEqProofs []
  refine run_loop (fun m S h1 => ∃ (j : Nat) (t1 : Tok), m = ks.length - j ∧ j ≤ ks.length ∧ S 0 = .ptr b 0 ∧ S 6 = .sl .no (ks.map encKeyT) ∧ S 7 = .int .i64 ks.length ∧ S 8 = .int .i64 j ∧ WTo h b t (ws ++ (ks.take j).flatMap fun k => [signed k.arg, k.base.toNat]) h1 t1) ?_ ks.length ?_
  rotate_left
  · exact ⟨0, t, by simpa using WTo.refl hw⟩
  rintro m S h1 ⟨j, t1, hm, hj, s0, s6, s7, s8, hq⟩ ih
  by_cases hlt : j < ks.length
  · have he := flat_snoc (fun k : KeyT => [signed k.arg, k.base.toNat]) hlt
    have hfl := flat_len (fun k : KeyT => [signed k.arg, k.base.toNat]) 2 (fun _ => rfl) (ks.take j)
    rw [List.length_take] at hfl
    obtain ⟨⟨a1, a2⟩, b1, b2⟩ := hk _ (List.getElem_mem hlt)
    have hbn := hq.keep.bn
    have z : ¬ b = h1.bn := by omega
    simp -implicitDefEqProofs [s0, s6, s7, s8, hlt, encKeyT]
    have k1 := (hq.al [.int .i64 0, .int .i64 0]).so (b' := h1.bn) hbn hb [.int .i64 ks[j].arg, .int .i64 ks[j].base]
    refine callW (wsigned_ok k1.wb ks[j].arg a1 a2 (by rw [List.length_append, hfl]; omega)) (by simp) fun r h2 t2 q2 => ?_
    have k2 := k1.trans q2
    have f2 : h2.bx h1.bn = some [.int .i64 ks[j].arg, .int .i64 ks[j].base] := by rw [q2.keep.bx _ (by simp) (fun e => z e.symm)]; simp
    have n2 : h1.bn < h2.bn := Nat.lt_of_lt_of_le (by simp) q2.keep.bn
    simp -implicitDefEqProofs [s0, f2, n2]
    refine callW (count_ok q2.wb ks[j].base b2 (by rw [List.length_append, List.length_append, hfl]; simp; omega)) (by simp) fun r h3 t3 q3 => ?_
    have k3 := k2.trans q3
    rw [List.append_assoc, List.append_assoc, show [signed ks[j].arg] ++ [ks[j].base.toNat] = [signed ks[j].arg, ks[j].base.toNat] from rfl, ← he] at k3
    simp -implicitDefEqProofs [s8, inc_i64 hlt (show ks.length ≤ _ by omega), -Int.natCast_add]
    exact ih (ks.length - (j + 1)) _ _ (by omega) ⟨j + 1, t3, rfl, by omega, by simp [s0], by simp [s6], by simp [s7], by simp, k3⟩
  · obtain rfl : j = ks.length := by omega
    rw [List.take_length] at hq
    simp -implicitDefEqProofs [s7, s8]
    exact ⟨t1, hq⟩
end Go.Proofs

/- The program's writers of programs and footprints. -/
namespace Go.Proofs
open Go Go.RowKit Go.Am

theorem progW_len (l : List Inst) : (writeAll (l.flatMap instItems)).length = 9 * l.length := by
  rw [writeAll_flat]; exact flat_len _ 9 w_instLen l
theorem footW_len (l : List SpanT) : (writeAll (l.flatMap spanItems)).length = 5 * l.length := by
  rw [writeAll_flat]; exact flat_len _ 5 w_spanLen l
theorem writeAll_cons (x : Item) (l : List Item) : writeAll (x :: l) = writeW x ++ writeAll l := by simp [writeAll]

set_option maxHeartbeats 1000000 in
theorem progPut_ok {h : H} {b : Nat} {t : Tok} {ws : List Nat} (hw : WB h b t ws) (l : List Inst) (h8 : l.length ≤ 8) (hx : ∀ x ∈ l, x.wf) (hl : ws.length ≤ 800000) : WAdd 68 [.ptr b 0, .sl .no (l.map encInst)] h b t (ws ++ writeAll (progItems l)) := by
  refine CallP.run hb68 ok68 (by simp) ?_
  have hb := hw.lt
  simp -implicitDefEqProofs []
  refine callW (count_ok hw (l.length : Int) (by omega) (by omega)) (by simp) fun r h0 t0 q0 => ?_
  rw [Int.toNat_natCast] at q0
  simp -implicitDefEqProofs []
  refine run_loop (fun m S h1 => ∃ (j : Nat) (t1 : Tok), m = l.length - j ∧ j ≤ l.length ∧ S 0 = .ptr b 0 ∧ S 12 = .sl .no (l.map encInst) ∧ S 13 = .int .i64 l.length ∧ S 14 = .int .i64 j ∧ WTo h b t (ws ++ [l.length] ++ writeAll ((l.take j).flatMap instItems)) h1 t1) ?_ l.length ?_
  rotate_left
  · exact ⟨0, t0, rfl, Nat.zero_le _, by simp, by simp, by simp, by simp, by simpa [writeAll] using q0⟩
  rintro m S h1 ⟨j, t1, hm, hj, s0, s12, s13, s14, hq⟩ ih
  by_cases hlt : j < l.length
  · have he := flat_snoc instItems hlt
    have hlen := progW_len (l.take j)
    rw [List.length_take] at hlen
    have hws : (ws ++ [l.length] ++ writeAll ((l.take j).flatMap instItems)).length ≤ 800100 := by rw [List.length_append, List.length_append, hlen]; simp; omega
    obtain ⟨x1, x2, x3, x4, x5, x6, x7⟩ := hx _ (List.getElem_mem hlt)
    generalize hxe : l[j] = x at he x1 x2 x3 x4 x5 x6 x7
    have hbn := hq.keep.bn
    have z : ¬ b = h1.bn := by omega
    have z' : ¬ h1.bn = b := by omega
    simp -implicitDefEqProofs [s0, s12, s13, s14, hlt, hxe, encInst]
    have k1 := (hq.al [.int .i64 0, .int .i64 0, .int .i64 0, .int .i64 0, .int .i64 0, .int .i64 0, .int .i64 0, .int .i64 0, .int .i64 0]).so (b' := h1.bn) hbn hb (encInst x)
    rw [encInst] at k1
    refine callW (counts_ok k1.wb [x.op, x.a, x.b, x.c] (by intro n hn; simp only [List.mem_cons, List.not_mem_nil, or_false] at hn; have y1 := x1.2; have y2 := x2.2; have y3 := x3.2; have y4 := x4.2; rcases hn with rfl | rfl | rfl | rfl <;> assumption) (by simp only [List.length_cons, List.length_nil]; omega)) (by simp [encN]) fun r h2 t2 q2 => ?_
    have k2 := k1.trans q2
    have f2 : h2.bx h1.bn = some (encInst x) := by rw [q2.keep.bx _ (by simp) (fun e => z e.symm)]; simp [encInst]
    rw [encInst] at f2
    have n2 : h1.bn < h2.bn := Nat.lt_of_lt_of_le (by simp) q2.keep.bn
    have hws3 : (ws ++ [l.length] ++ writeAll ((l.take j).flatMap instItems) ++ [x.op, x.a, x.b, x.c].map Int.toNat).length ≤ 800200 := by
      rw [List.length_append]; simp only [List.length_map, List.length_cons, List.length_nil]; omega
    obtain ⟨⟨ka1, ka2⟩, kb1, kb2⟩ := x5
    obtain ⟨⟨la1, la2⟩, lb1, lb2⟩ := x6
    have w01 : IntKind.i64.wrap 1 = 1 := by decide
    have w12 : IntKind.i64.wrap 2 = 2 := by decide
    simp -implicitDefEqProofs [f2, n2]
    refine .loop ?_
    have y1 : ¬ b = h2.bn := by have := q2.wb.lt; omega
    have y2 : ¬ h1.bn = h2.bn := by omega
    have k3 := (k2.al [.int .i64 0, .int .i64 0]).so (b' := h2.bn) (by omega) hb [.int .i64 x.k.arg, .int .i64 x.k.base]
    simp -implicitDefEqProofs [s0]
    refine callW (wsigned_ok k3.wb x.k.arg ka1 ka2 (by omega)) (by simp) fun r h3 t3 q3 => ?_
    have k4 := k3.trans q3
    have f3 : h3.bx h2.bn = some [.int .i64 x.k.arg, .int .i64 x.k.base] := by rw [q3.keep.bx _ (by simp) (fun e => y1 e.symm)]; simp
    have g3 : h3.bx h1.bn = some (encInst x) := by rw [q3.keep.bx _ (by simp; omega) (fun e => z e.symm)]; simp [y2, f2, encInst]
    have n3 : h2.bn < h3.bn := Nat.lt_of_lt_of_le (by simp) q3.keep.bn
    simp -implicitDefEqProofs [s0, f3, n3]
    refine callW (count_ok k4.wb x.k.base kb2 (by simp only [List.length_append, List.length_cons, List.length_nil] at hws3 ⊢; omega)) (by simp) fun r h4 t4 q4 => ?_
    have k5 := k4.trans q4
    have hb3 : b < h3.bn := q3.wb.lt
    have g4 : h4.bx h1.bn = some (encInst x) := by rw [q4.keep.bx _ (by omega) (fun e => z e.symm)]; exact g3
    have n4 : h3.bn ≤ h4.bn := q4.keep.bn
    have v1 : ¬ b = h4.bn := by omega
    have v2 : ¬ h1.bn = h4.bn := by omega
    have k6 := (k5.al [.int .i64 0, .int .i64 0]).so (b' := h4.bn) (by omega) hb [.int .i64 x.l.arg, .int .i64 x.l.base]
    simp -implicitDefEqProofs [w01]
    refine .lp ?_
    simp -implicitDefEqProofs [s0]
    refine callW (wsigned_ok k6.wb x.l.arg la1 la2 (by simp only [List.length_append, List.length_cons, List.length_nil] at hws3 ⊢; omega)) (by simp) fun r h5 t5 q5 => ?_
    have k7 := k6.trans q5
    have f5 : h5.bx h4.bn = some [.int .i64 x.l.arg, .int .i64 x.l.base] := by rw [q5.keep.bx _ (by simp) (fun e => v1 e.symm)]; simp
    have g5 : h5.bx h1.bn = some (encInst x) := by rw [q5.keep.bx _ (by simp; omega) (fun e => z e.symm)]; simp [v2, g4, encInst]
    have n5 : h4.bn < h5.bn := Nat.lt_of_lt_of_le (by simp) q5.keep.bn
    simp -implicitDefEqProofs [s0, f5, n5]
    refine callW (count_ok k7.wb x.l.base lb2 (by simp only [List.length_append, List.length_cons, List.length_nil] at hws3 ⊢; omega)) (by simp) fun r h6 t6 q6 => ?_
    have k8 := k7.trans q6
    have g6 : h6.bx h1.bn = some (encInst x) := by rw [q6.keep.bx _ (by omega) (fun e => z e.symm)]; exact g5
    have n6 : h5.bn ≤ h6.bn := q6.keep.bn
    rw [encInst] at g6
    simp -implicitDefEqProofs [w12]
    refine .lp ?_
    simp -implicitDefEqProofs [s0, g6, show h1.bn < h6.bn by omega]
    refine callW (wsigned_ok k8.wb x.x x7.1 x7.2 (by simp only [List.length_append, List.length_cons, List.length_nil] at hws3 ⊢; omega)) (by simp) fun r h7 t7 q7 => ?_
    have k9 := k8.trans q7
    have hw9 : ws ++ [l.length] ++ writeAll ((l.take j).flatMap instItems) ++ [x.op, x.a, x.b, x.c].map Int.toNat ++ [signed x.k.arg] ++ [x.k.base.toNat] ++ [signed x.l.arg] ++ [x.l.base.toNat] ++ [signed x.x] = ws ++ [l.length] ++ writeAll ((l.take (j + 1)).flatMap instItems) := by
      rw [he, writeAll_app, w_inst]; simp
    rw [hw9] at k9
    simp -implicitDefEqProofs [s14, inc_i64 hlt (show l.length ≤ _ by omega), -Int.natCast_add]
    exact ih (l.length - (j + 1)) _ _ (by omega) ⟨j + 1, t7, rfl, by omega, by simp [s0], by simp [s12], by simp [s13], by simp, k9⟩
  · obtain rfl : j = l.length := by omega
    rw [List.take_length] at hq
    simp -implicitDefEqProofs [s13, s14]
    refine ⟨t1, ?_⟩
    rw [progItems, writeAll_cons, w_iN, Int.toNat_natCast, ← List.append_assoc]
    exact hq
end Go.Proofs

/- The steps of a class, over which one ranges, whatever a round does. -/
namespace Go.Proofs
open Go Go.RowKit Go.Am

set_option maxHeartbeats 1000000 in
theorem each4_run (c : Cls) {l b j : Nat} {s : Slots} {h : H} (hlt : j < c.steps.length) (hlt2 : j < c.comps.length) (s0 : s 0 = .yld l) (s1 : s 1 = .ptr b 0) (s3 : s 3 = .int .i64 j) (b1 : b < h.bn) (b2 : h.bx b = some (encCls c))
    {G B : H → Prop} (hr : ∀ K : AV → H → Prop, (∀ h', G h' → K (.bool true) h') → (∀ h', B h' → K (.bool false) h') → callQ Tryz.prog (.yld l) [.agg (encStp c.steps[j]), .agg (encStp c.comps[j])] h K)
    {inr : Bool} {k : List It} {Q : Res → Slots → H → Prop} (hk : ∀ S h' r, S 26 = .bool (!r) → (∀ y, y < 14 → S y = s y) → (r = true → G h') → (r = false → B h') → Run Tryz.prog inr k Q S h') :
    Run Tryz.prog inr (.c (.dreg c67_r4 c67_a4) :: k) Q s h := by
  let V : Nat → AV := fun i => match i with
    | 0 => .yld l | 1 => .ptr b 2 | 2 => .sl .no (c.steps.map encStp) | 3 => .int .i64 j | 4 => .rop (encStp c.steps[j]) | 5 => .agg (encStp c.steps[j])
    | 6 => .ptr b 3 | 7 => .sl .no (c.comps.map encStp) | 8 => .int .i64 j | 9 => .rop (encStp c.comps[j]) | _ => .agg (encStp c.comps[j])
  let Inv : List Nat → Slots → H → Prop := fun done S h' => (∀ i ∈ done, i < 13) ∧ (∀ i ∈ done, ∀ q ∈ c67_a4.getD i [], q ∈ done) ∧ (∀ y, y < 14 → S y = s y) ∧ (∀ i ∈ done, i < 11 → S (14 + i) = V i) ∧
    (11 ∉ done → h' = h) ∧ (11 ∈ done → ∃ r, S 25 = .bool r ∧ (12 ∈ done → S 26 = .bool (!r)) ∧ (r = true → G h') ∧ (r = false → B h'))
  rw [encCls] at b2
  refine run_topoQ (Inv := Inv) ?_ ⟨(fun i hi => absurd hi List.not_mem_nil), (fun i hi => absurd hi List.not_mem_nil), fun _ _ => rfl, (fun i hi => absurd hi List.not_mem_nil), fun _ => rfl, (fun hi => absurd hi List.not_mem_nil)⟩ ?_
  · rintro i x done S h' hx hnd haft ⟨d0, d1, d2, d3, d4, d5⟩
    have hi : i < 13 := (List.getElem?_eq_some_iff.1 hx).1
    have cl : ∀ m ∈ i :: done, ∀ q ∈ c67_a4.getD m [], q ∈ i :: done := fun m hm q hq => by
      rcases List.mem_cons.1 hm with rfl | hm
      · exact List.mem_cons_of_mem _ (haft q hq)
      · exact List.mem_cons_of_mem _ (d1 m hm q hq)
    have lt : ∀ m ∈ i :: done, m < 13 := fun m hm => by rcases List.mem_cons.1 hm with rfl | hm; exact hi; exact d0 m hm
    -- what stands before the call
    have anc : 11 ∈ done → ∀ q, q < 11 → q ∈ done := fun h11 q hq => by
      have m0 := d1 11 h11 0 (by decide)
      have m5 := d1 11 h11 5 (by decide)
      have m10 := d1 11 h11 10 (by decide)
      have m4 := d1 5 m5 4 (by decide)
      have m2 := d1 4 m4 2 (by decide)
      have m3 := d1 4 m4 3 (by decide)
      have m1 := d1 2 m2 1 (by decide)
      have m9 := d1 10 m10 9 (by decide)
      have m7 := d1 9 m9 7 (by decide)
      have m8 := d1 9 m9 8 (by decide)
      have m6 := d1 7 m7 6 (by decide)
      have : q = 0 ∨ q = 1 ∨ q = 2 ∨ q = 3 ∨ q = 4 ∨ q = 5 ∨ q = 6 ∨ q = 7 ∨ q = 8 ∨ q = 9 ∨ q = 10 := by omega
      rcases this with rfl | rfl | rfl | rfl | rfl | rfl | rfl | rfl | rfl | rfl | rfl <;> assumption
    have light : ∀ (hi11 : i < 11), (11 ∉ done → pv x.op (ev S) h = some (V i)) → x.dst = some (14 + i) → x.g = none → (∀ K : AV → H → Prop, ob (pv x.op (ev S) h') (fun v => K v h') → wpI Tryz.prog x.op (ev S) h' K) → x.g = none ∧ wpI Tryz.prog x.op (ev S) h' fun v h1 => Inv (i :: done) (put S x.dst v) h1 := fun hi11 hv hd hg hw => by
      have h11 : 11 ∉ done := fun h => hnd (anc h i hi11)
      refine ⟨hg, hw _ ?_⟩
      obtain rfl := d4 h11
      rw [hv h11]
      refine ⟨lt, cl, fun y hy => ?_, fun m hm hm11 => ?_, fun _ => rfl, fun h => ?_⟩
      · rw [hd]
        show su S (14 + i) _ y = _
        rw [su_ne (by omega)]
        exact d2 y hy
      · rw [hd]
        show su S (14 + i) _ (14 + m) = _
        by_cases e : m = i
        · subst e; exact su_eq
        · rw [su_ne (by omega)]
          exact d3 m (by rcases List.mem_cons.1 hm with h | h; exact absurd h e; exact h) hm11
      · rcases List.mem_cons.1 h with h | h
        · omega
        · exact absurd h h11
    have t0 : S 0 = .yld l := by rw [d2 0 (by decide)]; exact s0
    have t1 : S 1 = .ptr b 0 := by rw [d2 1 (by decide)]; exact s1
    have t3 : S 3 = .int .i64 j := by rw [d2 3 (by decide)]; exact s3
    have h13 : i = 0 ∨ i = 1 ∨ i = 2 ∨ i = 3 ∨ i = 4 ∨ i = 5 ∨ i = 6 ∨ i = 7 ∨ i = 8 ∨ i = 9 ∨ i = 10 ∨ i = 11 ∨ i = 12 := by omega
    rcases h13 with rfl | rfl | rfl | rfl | rfl | rfl | rfl | rfl | rfl | rfl | rfl | rfl | rfl
    · cases hx; exact light (by decide) (fun _ => by simp [t0, V]) rfl rfl fun K hK => hK
    · cases hx; exact light (by decide) (fun _ => by simp [t1, V]) rfl rfl fun K hK => hK
    · cases hx
      have e1 := d3 1 (haft 1 (by decide)) (by decide)
      exact light (by decide) (fun _ => by simp [e1, V, b1, b2]) rfl rfl fun K hK => hK
    · cases hx; exact light (by decide) (fun _ => by simp [t3, V]) rfl rfl fun K hK => hK
    · cases hx
      have e1 := d3 2 (haft 2 (by decide)) (by decide)
      have e2 := d3 3 (haft 3 (by decide)) (by decide)
      exact light (by decide) (fun _ => by simp [e1, e2, V, hlt, encStp]) rfl rfl fun K hK => hK
    · cases hx
      have e1 := d3 4 (haft 4 (by decide)) (by decide)
      exact light (by decide) (fun _ => by simp [e1, V, encStp]) rfl rfl fun K hK => hK
    · cases hx; exact light (by decide) (fun _ => by simp [t1, V]) rfl rfl fun K hK => hK
    · cases hx
      have e1 := d3 6 (haft 6 (by decide)) (by decide)
      exact light (by decide) (fun _ => by simp [e1, V, b1, b2]) rfl rfl fun K hK => hK
    · cases hx; exact light (by decide) (fun _ => by simp [t3, V]) rfl rfl fun K hK => hK
    · cases hx
      have e1 := d3 7 (haft 7 (by decide)) (by decide)
      have e2 := d3 8 (haft 8 (by decide)) (by decide)
      exact light (by decide) (fun _ => by simp [e1, e2, V, hlt2, encStp]) rfl rfl fun K hK => hK
    · cases hx
      have e1 := d3 9 (haft 9 (by decide)) (by decide)
      exact light (by decide) (fun _ => by simp [e1, V, encStp]) rfl rfl fun K hK => hK
    · cases hx
      obtain rfl := d4 hnd
      have e1 : S 14 = _ := d3 0 (haft 0 (by decide)) (by decide)
      have e2 : S 19 = _ := d3 5 (haft 5 (by decide)) (by decide)
      have e3 : S 24 = _ := d3 10 (haft 10 (by decide)) (by decide)
      have hn12 : 12 ∉ done := fun h => hnd (d1 12 h 11 (by decide))
      refine ⟨rfl, ?_⟩
      show callQ Tryz.prog (S 14) [S 19, S 24] h' _
      rw [e1, e2, e3]
      have fin : ∀ (r : Bool) (h2 : H), (r = true → G h2) → (r = false → B h2) → Inv (11 :: done) (put S (some 25) (.bool r)) h2 := fun r h2 g1 g2 => by
        refine ⟨lt, cl, fun y hy => ?_, fun m hm hm11 => ?_, fun h => absurd (List.mem_cons_self ..) h, fun _ => ⟨r, su_eq, fun h => ?_, g1, g2⟩⟩
        · show su S 25 _ y = _
          rw [su_ne (by omega)]; exact d2 y hy
        · show su S 25 _ (14 + m) = _
          rw [su_ne (by omega)]
          exact d3 m (by rcases List.mem_cons.1 hm with h | h; omega; exact h) hm11
        · rcases List.mem_cons.1 h with h | h
          · cases h
          · exact absurd h hn12
      exact hr _ (fun h2 g => fin true h2 (fun _ => g) (fun h => by cases h)) (fun h2 g => fin false h2 (fun h => by cases h) (fun _ => g))
    · cases hx
      obtain ⟨r, r1, r2, r3, r4⟩ := d5 (haft 11 (by decide))
      refine ⟨rfl, ?_⟩
      show ob (unA .not (S 25)) _
      rw [r1]
      refine ⟨lt, cl, fun y hy => ?_, fun m hm hm11 => ?_, fun h => absurd (List.mem_cons_of_mem _ (haft 11 (by decide))) h, fun _ => ⟨r, ?_, fun _ => su_eq, r3, r4⟩⟩
      · show su S 26 _ y = _
        rw [su_ne (by omega)]; exact d2 y hy
      · show su S 26 _ (14 + m) = _
        rw [su_ne (by omega)]
        exact d3 m (by rcases List.mem_cons.1 hm with h | h; omega; exact h) hm11
      · show su S 26 _ 25 = _
        rw [su_ne (by decide)]; exact r1
  · rintro done S h' hall ⟨d0, d1, d2, d3, d4, d5⟩
    obtain ⟨r, r1, r2, r3, r4⟩ := d5 (hall 11 (by decide))
    exact hk S h' r (r2 (hall 12 (by decide))) d2 r3 r4

theorem each1Q_ok (c : Cls) (hl : c.comps.length = c.steps.length) (hm : c.steps.length ≤ 9223372036854775807) {l b : Nat} {h : H} (I : Nat → H → Prop) (J : H → Prop) (hI : ∀ k h', I k h' → b < h'.bn ∧ h'.bx b = some (encCls c))
    (hr : ∀ k h' (h1 : k < c.steps.length) (h2 : k < c.comps.length), I k h' → ∀ K : AV → H → Prop, (∀ h'', I (k + 1) h'' → K (.bool true) h'') → (∀ h'', J h'' → K (.bool false) h'') → callQ Tryz.prog (.yld l) [.agg (encStp c.steps[k]), .agg (encStp c.comps[k])] h' K)
    (h0 : I 0 h) : CallP Tryz.prog 67 [.yld l, .ptr b 0] h fun _ h1 => I c.steps.length h1 ∨ J h1 := by
  refine CallP.run hb67 ok67 (by simp) ?_
  obtain ⟨b1, b2⟩ := hI _ _ h0
  simp -implicitDefEqProofs [b1, b2, encCls, hl]
  refine run_loop (fun m s h1 => ∃ j : Nat, m = c.steps.length - j ∧ j ≤ c.steps.length ∧ s 0 = .yld l ∧ s 1 = .ptr b 0 ∧ s 10 = .int .i64 c.steps.length ∧ s 11 = .int .i64 j ∧ I j h1) ?_ c.steps.length ?_
  rotate_left
  · exact ⟨0, by simpa using h0⟩
  rintro m s h1 ⟨j, hn, hj, s0, s1, s10, s11, hi⟩ ih
  by_cases hlt : j < c.steps.length
  · have hlt2 : j < c.comps.length := by omega
    obtain ⟨b1, b2⟩ := hI _ _ hi
    simp -implicitDefEqProofs [s10, s11, hlt]
    refine each4_run c hlt hlt2 (by simp [s0]) (by simp [s1]) (by simp) b1 b2 (G := I (j + 1)) (B := J) (hr j h1 hlt hlt2 hi) ?_
    intro S h2 r t26 tS g1 g2
    have t0 : S 0 = .yld l := by rw [tS 0 (by decide)]; simp [s0]
    have t1 : S 1 = .ptr b 0 := by rw [tS 1 (by decide)]; simp [s1]
    have t10 : S 10 = .int .i64 c.steps.length := by rw [tS 10 (by decide)]; simp [s10]
    have t11 : S 11 = .int .i64 j := by rw [tS 11 (by decide)]; simp [s11]
    cases r
    · simp -implicitDefEqProofs [t26]
      exact Or.inr (g2 rfl)
    · simp -implicitDefEqProofs [t26, t11, inc_i64 hlt hm, -Int.natCast_add]
      exact ih (c.steps.length - (j + 1)) _ _ (by omega) ⟨j + 1, rfl, by omega, by simp [t0], by simp [t1], by simp [t10], by simp, g1 rfl⟩
  · obtain rfl : j = c.steps.length := by omega
    simp -implicitDefEqProofs [s10, s11]
    exact Or.inl hi
end Go.Proofs

/- The program's writers of footprints, steps and classes. -/
namespace Go.Proofs
open Go Go.RowKit Go.Am

theorem footPut_ok {h : H} {b : Nat} {t : Tok} {ws : List Nat} (hw : WB h b t ws) (l : List SpanT) (h4 : l.length ≤ 4) (hx : ∀ x ∈ l, x.wf) (hl : ws.length ≤ 810000) : WAdd 69 [.ptr b 0, .sl .no (l.map encSpanT)] h b t (ws ++ writeAll (footItems l)) := by
  refine CallP.run hb69 ok69 (by simp) ?_
  have hb := hw.lt
  simp -implicitDefEqProofs []
  refine callW (count_ok hw (l.length : Int) (by omega) (by omega)) (by simp) fun r h0 t0 q0 => ?_
  rw [Int.toNat_natCast] at q0
  simp -implicitDefEqProofs []
  refine run_loop (fun m S h1 => ∃ (j : Nat) (t1 : Tok), m = l.length - j ∧ j ≤ l.length ∧ S 0 = .ptr b 0 ∧ S 10 = .sl .no (l.map encSpanT) ∧ S 11 = .int .i64 l.length ∧ S 12 = .int .i64 j ∧ WTo h b t (ws ++ [l.length] ++ writeAll ((l.take j).flatMap spanItems)) h1 t1) ?_ l.length ?_
  rotate_left
  · exact ⟨0, t0, rfl, Nat.zero_le _, by simp, by simp, by simp, by simp, by simpa [writeAll] using q0⟩
  rintro m S h1 ⟨j, t1, hm, hj, s0, s10, s11, s12, hq⟩ ih
  by_cases hlt : j < l.length
  · have he := flat_snoc spanItems hlt
    have hlen := footW_len (l.take j)
    rw [List.length_take] at hlen
    have hws : (ws ++ [l.length] ++ writeAll ((l.take j).flatMap spanItems)).length ≤ 810100 := by rw [List.length_append, List.length_append, hlen]; simp; omega
    obtain ⟨x1, x2⟩ := hx _ (List.getElem_mem hlt)
    generalize hxe : l[j] = x at he x1 x2
    have hbn := hq.keep.bn
    have z : ¬ b = h1.bn := by omega
    simp -implicitDefEqProofs [s0, s10, s11, s12, hlt, hxe, encSpanT]
    have k1 := (hq.al [.int .i64 0, .int .i64 0, .int .i64 0, .int .i64 0, .bool false]).so (b' := h1.bn) hbn hb (encSpanT x)
    rw [encSpanT] at k1
    have hks : ∀ k ∈ [x.lo, x.hi], k.wf := by intro k hk; simp only [List.mem_cons, List.not_mem_nil, or_false] at hk; rcases hk with rfl | rfl <;> assumption
    refine callW (templates_ok k1.wb [x.lo, x.hi] hks (by simp only [List.length_cons, List.length_nil]; omega)) (by simp [encKeyT]) fun r h2 t2 q2 => ?_
    have k2 := k1.trans q2
    have f2 : h2.bx h1.bn = some (encSpanT x) := by rw [q2.keep.bx _ (by simp) (fun e => z e.symm)]; simp [encSpanT]
    rw [encSpanT] at f2
    have n2 : h1.bn < h2.bn := Nat.lt_of_lt_of_le (by simp) q2.keep.bn
    simp -implicitDefEqProofs [s0, f2, n2]
    refine callW (wflag_ok k2.wb x.write (by rw [List.length_append]; simp only [List.flatMap_cons, List.flatMap_nil, List.length_append, List.length_cons, List.length_nil] at hws ⊢; omega)) (by simp) fun r h3 t3 q3 => ?_
    have k3 := k2.trans q3
    have hw9 : ws ++ [l.length] ++ writeAll ((l.take j).flatMap spanItems) ++ ([x.lo, x.hi].flatMap fun k => [signed k.arg, k.base.toNat]) ++ [if x.write = true then 1 else 0] = ws ++ [l.length] ++ writeAll ((l.take (j + 1)).flatMap spanItems) := by
      rw [he, writeAll_app, w_span]; simp
    rw [hw9] at k3
    simp -implicitDefEqProofs [s12, inc_i64 hlt (show l.length ≤ _ by omega), -Int.natCast_add]
    exact ih (l.length - (j + 1)) _ _ (by omega) ⟨j + 1, t3, rfl, by omega, by simp [s0], by simp [s10], by simp [s11], by simp, k3⟩
  · obtain rfl : j = l.length := by omega
    rw [List.take_length] at hq
    simp -implicitDefEqProofs [s11, s12]
    refine ⟨t1, ?_⟩
    rw [footItems, writeAll_cons, w_iN, Int.toNat_natCast, ← List.append_assoc]
    exact hq

theorem progI_len (l : List Inst) : (writeAll (progItems l)).length = 1 + 9 * l.length := by rw [progItems, writeAll_cons, List.length_append, progW_len]; rfl
theorem footI_len (l : List SpanT) : (writeAll (footItems l)).length = 1 + 5 * l.length := by rw [footItems, writeAll_cons, List.length_append, footW_len]; rfl
theorem stp_len (s : Stp) (h : s.small) : (writeAll (stpItems s)).length ≤ 94 := by
  rw [stpItems, writeAll_app, List.length_append, progI_len, footI_len]
  have := h.1; have := h.2; omega

/-- The two steps of a round. -/
theorem putSteps_ok {h : H} {b : Nat} {t : Tok} {ws : List Nat} (hw : WB h b t ws) (l : List Stp) (h2 : l.length ≤ 2) (hx : ∀ x ∈ l, x.wf ∧ x.small) (hl : ws.length ≤ 700000) : WAdd 44 [.ptr b 0, .sl .no (l.map encStp)] h b t (ws ++ writeAll (l.flatMap stpItems)) := by
  refine CallP.run hb44 ok44 (by simp) ?_
  have hb := hw.lt
  simp -implicitDefEqProofs []
  refine run_loop (fun m S h1 => ∃ (j : Nat) (t1 : Tok), m = l.length - j ∧ j ≤ l.length ∧ S 0 = .ptr b 0 ∧ S 6 = .sl .no (l.map encStp) ∧ S 7 = .int .i64 l.length ∧ S 8 = .int .i64 j ∧ (writeAll ((l.take j).flatMap stpItems)).length ≤ 94 * j ∧ WTo h b t (ws ++ writeAll ((l.take j).flatMap stpItems)) h1 t1) ?_ l.length ?_
  rotate_left
  · exact ⟨0, t, rfl, Nat.zero_le _, by simp, by simp, by simp, by simp, by simp [writeAll], by simpa [writeAll] using WTo.refl hw⟩
  rintro m S h1 ⟨j, t1, hm, hj, s0, s6, s7, s8, hlen, hq⟩ ih
  by_cases hlt : j < l.length
  · have he := flat_snoc stpItems hlt
    have hws : (ws ++ writeAll ((l.take j).flatMap stpItems)).length ≤ 701000 := by rw [List.length_append]; omega
    obtain ⟨x1, x2⟩ := hx _ (List.getElem_mem hlt)
    generalize hxe : l[j] = x at he x1 x2
    have hbn := hq.keep.bn
    have z : ¬ b = h1.bn := by omega
    simp -implicitDefEqProofs [s0, s6, s7, s8, hlt, hxe, encStp]
    have k1 := (hq.al [.sl .full [], .sl .full []]).so (b' := h1.bn) hbn hb (encStp x)
    rw [encStp] at k1
    refine callW (progPut_ok k1.wb x.code x2.1 x1.1.2 (by omega)) (by simp) fun r h2 t2 q2 => ?_
    have k2 := k1.trans q2
    have f2 : h2.bx h1.bn = some (encStp x) := by rw [q2.keep.bx _ (by simp) (fun e => z e.symm)]; simp [encStp]
    rw [encStp] at f2
    have n2 : h1.bn < h2.bn := Nat.lt_of_lt_of_le (by simp) q2.keep.bn
    simp -implicitDefEqProofs [s0, f2, n2]
    have hpl := progI_len x.code
    have hx8 := x2.1
    refine callW (footPut_ok k2.wb x.foot x2.2 x1.2.2 (by rw [List.length_append, hpl]; omega)) (by simp) fun r h3 t3 q3 => ?_
    have k3 := k2.trans q3
    have hsl := stp_len x x2
    have hw9 : ws ++ writeAll ((l.take j).flatMap stpItems) ++ writeAll (progItems x.code) ++ writeAll (footItems x.foot) = ws ++ writeAll ((l.take (j + 1)).flatMap stpItems) := by
      rw [he, writeAll_app, stpItems, writeAll_app]; simp
    rw [hw9] at k3
    simp -implicitDefEqProofs [s8, inc_i64 hlt (show l.length ≤ _ by omega), -Int.natCast_add]
    exact ih (l.length - (j + 1)) _ _ (by omega) ⟨j + 1, t3, rfl, by omega, by simp [s0], by simp [s6], by simp [s7], by simp, by rw [he, writeAll_app, List.length_append]; omega, k3⟩
  · obtain rfl : j = l.length := by omega
    rw [List.take_length] at hq
    simp -implicitDefEqProofs [s7, s8]
    exact ⟨t1, hq⟩
end Go.Proofs
