/- What the functions that the statement reaches do: their contracts; and what follows of it. -/
import Derived.Test.YtejbnedogieocaaGreatSCatWords6
import Derived.Test.YtejbnedogieocaaGreatSCatWords5
import Derived.Test.YtejbnedogieocaaGreatK4
/- The program's reader of classes. -/
namespace Go.Proofs
open Go Go.RowKit Go.Am

def clsCells (name : ByteArray) (args : Int) (t t' : Tok) (L : List (Stp × Stp)) (r : Bool) : List AV := [.str name, .int .i64 args, .sl t (L.map fun p => encStp p.1), .sl t' (L.map fun p => encStp p.2), .bool r]
/-- What the loop over the steps has read. -/
structure CLoop (h : H) (b : Nat) (s1 : RS) (name : ByteArray) (args : Int) (j : Nat) (h1 : H) (sj : RS) (L : List (Stp × Stp)) (t t' : Tok) : Prop where
  to : RTo h b h1 sj
  got : Got (Rd.rep rdPair j) s1 L sj
  len : L.length = j
  bx : h1.bx (h.bn + 1) = some (clsCells name args t t' L false)
  b0 : h1.bx h.bn = some [.str ⟨#[]⟩, .int .i64 0, .sl .full [], .sl .full [], .bool false]
  bn : h.bn + 1 < h1.bn
  live : TLive h1 t j
  live' : TLive h1 t' j
  new : TNew h t
  new' : TNew h t'
  apart : TApart t t'

set_option maxHeartbeats 2000000 in
theorem classGet_rd {h : H} {b : Nat} {s : RS} (hr : RIs h b s) : RdX 25 [.ptr b 0] h b (clsRV s) (clsRS s) := by
  refine RdX.mk' hr (clsRS_bd hr.bd) (pure_clsRV s) (CallP.run hb25 ok25 (by simp) ?_)
  have hb := hr.blt
  have z0 : ¬ h.bn = b := by omega
  have z1 : ¬ h.bn + 1 = b := by omega
  have z2 : ¬ b = h.bn := by omega
  have z3 : ¬ b = h.bn + 1 := by omega
  simp -implicitDefEqProofs []
  refine callQ_r (text_rd (hr.alloc _)).q (by simp) fun name s1 q1 g1 => ?_
  simp -implicitDefEqProofs []
  refine callQ_r (count_rd (most := 3) q1.is (by simp [inI])).q (by simp) fun args s2 q2 g2 => ?_
  have k2 := RTo.al (RTo.refl hr) [.str ⟨#[]⟩, .int .i64 0, .sl .full [], .sl .full [], .bool false] |>.trans (q1.trans q2)
  have k3 := RTo.so (RTo.al k2 [.str ⟨#[]⟩, .int .i64 0, .sl .full [], .sl .full [], .bool false]) (b' := h.bn + 1) (Nat.le_succ _) hb [.str name, .int .i64 args, .sl .full [], .sl .full [], .bool false]
  simp -implicitDefEqProofs []
  have hn := count_rd k3.is (most := 4) (by simp [inI])
  refine callQ_s hn.call (by simp) ?_
  have q := hn.to
  have g := Got.runS (rdCount 4) 0 s2
  have hin := rdCount_in (most := 4) (by simp [inI]) s2
  clear hn
  generalize runS (rdCount 4) 0 s2 = x at q g hin ⊢
  obtain ⟨n, s3⟩ := x
  simp only at q g hin
  obtain ⟨N, rfl⟩ := Int.eq_ofNat_of_zero_le hin.1
  have hN : N ≤ 4 := by omega
  have k4 := k3.trans q
  simp -implicitDefEqProofs []
  refine run_loop (fun m S h1 => ∃ (j : Nat) (sj : RS) (L : List (Stp × Stp)) (t t' : Tok), m = N - j ∧ j ≤ N ∧ S 0 = .ptr b 0 ∧ S 2 = .ptr h.bn 0 ∧ S 4 = .ptr (h.bn + 1) 0 ∧ S 11 = .int .i64 N ∧ S 12 = .int .i64 j ∧ CLoop h b s3 name args j h1 sj L t t') ?_ N ?_
  rotate_left
  · exact ⟨0, s3, [], .full, .full, rfl, Nat.zero_le _, by simp, by simp, by simp, by simp, by simp, ⟨k4, Got.pure _ _, rfl, by simp [z1, clsCells], by simp [z0], by simp, trivial, trivial, TNew.full _, TNew.full _, fun i h => by cases h⟩⟩
  clear k4 k3 k2 q
  rintro m S h1 ⟨j, sj, L, t, t', hm, hj, t0, t2, t4, t11, t12, hL⟩ ih
  have hbn : h.bn ≤ h1.bn := hL.to.keep.bn
  have hn1 := hL.bn
  have hbx := hL.bx
  rw [clsCells] at hbx
  by_cases hlt : j < N
  · simp -implicitDefEqProofs [t11, t12, hlt]
    refine run_dreg c25_d5 ?_
    have f1 := step_rd hL.to.is
    have q1 := f1.to
    simp -implicitDefEqProofs [t0, t4, hbx, hn1]
    refine callD_s f1.call (by simp) ?_
    have k1 := hL.to.trans q1
    simp -implicitDefEqProofs []
    refine appQ_tok (t := t) (es := L.map (fun p : Stp × Stp => encStp p.1)) (es2 := [encStp (stpV sj)]) (by simpa [hL.len] using hL.live) (fun e he => by obtain ⟨p, _, rfl⟩ := List.mem_map.1 he; rfl) (by simp [srcA, encStp]) (by simp [hL.len]; omega) fun ta h3 p1 p2 p3 p4 => ?_
    have e3 : h3.bx (h.bn + 1) = some [.str name, .int .i64 args, .sl t (L.map fun p => encStp p.1), .sl t' (L.map fun p => encStp p.2), .bool false] := by rw [p3.bx _ (by simpa using hn1) (fun h => h)]; simp [z1, hbx]
    have e0 : h3.bx h.bn = some [.str ⟨#[]⟩, .int .i64 0, .sl .full [], .sl .full [], .bool false] := by rw [p3.bx _ (by simp; omega) (fun h => h)]; simp [z0, hL.b0]
    have n3 : h.bn + 1 < h3.bn := by rw [p4]; exact hn1
    have l3 : TLive h3 t' j := (by simpa using hL.live' : TLive (h1.set b (encRS (stpS sj))) t' j).keep p3 fun i hi ho => hL.apart i ho hi
    have a3 : TApart ta t' := (TApart.next (h := h1.set b (encRS (stpS sj))) (by simpa using hL.live') hL.apart.symm p2).symm
    have k3 := (k1.app hL.new p3).so (b' := h.bn + 1) (Nat.le_succ _) hb [.str name, .int .i64 args, .sl ta (L.map (fun p : Stp × Stp => encStp p.1) ++ [encStp (stpV sj)]), .sl t' (L.map fun p => encStp p.2), .bool false]
    simp -implicitDefEqProofs [t4, hbx, hn1, z1, e3, n3]
    refine run_dreg c25_d6 ?_
    have f2 := step_rd k3.is
    have q2 := f2.to
    have k4 := k3.trans q2
    simp -implicitDefEqProofs [t0, t4, n3]
    refine callD_s f2.call (by simp) ?_
    simp -implicitDefEqProofs []
    refine appQ_tok (t := t') (es := L.map (fun p : Stp × Stp => encStp p.2)) (es2 := [encStp (stpV (stpS sj))]) (by simpa [hL.len] using l3) (fun e he => by obtain ⟨p, _, rfl⟩ := List.mem_map.1 he; rfl) (by simp [srcA, encStp]) (by simp [hL.len]; omega) fun tb h4 r1 r2 r3 r4 => ?_
    have e4 : h4.bx (h.bn + 1) = some [.str name, .int .i64 args, .sl ta (L.map (fun p : Stp × Stp => encStp p.1) ++ [encStp (stpV sj)]), .sl t' (L.map fun p => encStp p.2), .bool false] := by rw [r3.bx _ (by simpa using n3) (fun h => h)]; simp [z1]
    have e5 : h4.bx h.bn = some [.str ⟨#[]⟩, .int .i64 0, .sl .full [], .sl .full [], .bool false] := by rw [r3.bx _ (by simp; omega) (fun h => h)]; simp [z0, e0]
    have n4 : h.bn + 1 < h4.bn := by rw [r4]; exact n3
    simp -implicitDefEqProofs [t4, t12, z1, e4, n4, n3, inc_i64 hlt (show N ≤ _ by omega), -Int.natCast_add]
    have k5 := (k4.app hL.new' r3).so (b' := h.bn + 1) (Nat.le_succ _) hb (clsCells name args ta tb (L ++ [(stpV sj, stpV (stpS sj))]) false)
    have lta : TLive h3 ta (j + 1) := by simpa [hL.len] using p1
    have lta4 : TLive h4 ta (j + 1) := (by simpa using lta : TLive ((h3.set (h.bn + 1) [.str name, .int .i64 args, .sl ta (L.map (fun p : Stp × Stp => encStp p.1) ++ [encStp (stpV sj)]), .sl t' (L.map fun p => encStp p.2), .bool false]).set b (encRS (stpS (stpS sj)))) ta (j + 1)).keep r3 fun i hi ho => a3 i hi ho
    have ltb4 : TLive h4 tb (j + 1) := by simpa [hL.len] using r1
    have aab : TApart ta tb := TApart.next (h := (h3.set (h.bn + 1) [.str name, .int .i64 args, .sl ta (L.map (fun p : Stp × Stp => encStp p.1) ++ [encStp (stpV sj)]), .sl t' (L.map fun p => encStp p.2), .bool false]).set b (encRS (stpS (stpS sj)))) (by simpa using lta) a3 r2
    have gg : Got rdPair sj (stpV sj, stpV (stpS sj)) (stpS (stpS sj)) := (stp_got sj).bind ((stp_got _).bind (Got.pure _ _))
    rw [clsCells, List.map_append, List.map_append] at k5
    exact ih (N - (j + 1)) _ _ (by omega) ⟨j + 1, _, L ++ [(stpV sj, stpV (stpS sj))], ta, tb, rfl, by omega, by simp [t0], by simp [t2], by simp [t4], by simp [t11], by simp, ⟨k5, hL.got.bind (gg.bind (Got.pure _ _)), by simp [hL.len], by simp [clsCells], by simp [e5], by simpa using n4, by simpa using lta4, by simpa using ltb4, hL.new.next k1.keep p2, hL.new'.next k4.keep r2, aab⟩⟩
  · obtain rfl : j = N := by omega
    simp -implicitDefEqProofs [t0, t11, t12]
    have hfl := flag_rd hL.to.is
    refine callQ_s hfl.call (by simp) ?_
    have q3 := hfl.to
    have g3 := Got.runS rdFlag false sj
    clear hfl
    generalize runS rdFlag false sj = y at q3 g3 ⊢
    obtain ⟨fl, s5⟩ := y
    simp only at q3 g3
    have k6 := (hL.to.trans q3).so (b' := h.bn + 1) (Nat.le_succ _) hb (clsCells name args t t' L fl)
    rw [clsCells] at k6
    have b0 := hL.b0
    have hgc : Got rdCls s ⟨name, args, L.map (·.1), L.map (·.2), fl⟩ s5 := g1.bind (g2.bind (g.bind ((by rw [Int.toNat_natCast]; exact hL.got : Got (Rd.rep rdPair (j : Int).toNat) s3 L sj).bind (g3.bind (Got.pure _ _)))))
    simp -implicitDefEqProofs [t0, t4, hn1, hbx, z1]
    refine callQ_s (rOk_ok k6.is) (by simp) ?_
    have hend : ∀ (X : H) (s6 : RS), RTo h b X s6 → clsR s = none → h.bn + 1 < X.bn → X.bx h.bn = some [.str ⟨#[]⟩, .int .i64 0, .sl .full [], .sl .full [], .bool false] → callQ Tryz.prog (.fn 24 [] []) [.ptr b 0, .int .i64 (-1)] X fun r h2 => RFin h b h2 (clsRS s) ∧ h2.bn = X.bn ∧ h2.bx h.bn = X.bx h.bn := fun X s6 kx hcn hxn hxb => by
      refine callQ_r (count_rd (most := -1) kx.is (by simp [inI])).q (by simp) fun n s7 q7 g7 => ?_
      have hs7 : s7 = none := by
        have := g7
        unfold Got at this
        cases s6 with
        | none => exact this
        | some l => cases l <;> simpa [rdCount] using this
      subst hs7
      refine ⟨?_, rfl, by simp [z0]⟩
      have : clsRS s = none := by simp [clsRS, hcn]
      rw [this]
      exact (kx.trans q7).fin
    have hc0 : ∀ (c0 : clsR s = none), clsRV s = .tup [.agg [.str ⟨#[]⟩, .int .i64 0, .sl .no [], .sl .no [], .bool false], .bool false] := fun c0 => by simp [clsRV, c0, cls0, encCls]
    cases s5 with
    | none =>
      have hcn := clsR_none hgc
      have hrv := hc0 hcn
      simp -implicitDefEqProofs [t0]
      refine callQ_mono (fun r h2 ⟨r1, r2, r3⟩ => ?_) (hend _ none k6 hcn (by simpa using hn1) (by simp [z0, b0]))
      have n2 : h.bn < h2.bn := by rw [r2]; simp; omega
      have b2 : h2.bx h.bn = some [.str ⟨#[]⟩, .int .i64 0, .sl .full [], .sl .full [], .bool false] := by rw [r3]; simp [z0, b0]
      simp -implicitDefEqProofs [t2, n2, b2, hrv]
      exact r1.so (Nat.le_refl _) hb _
    | some l =>
      have hcs := clsR_some hgc
      have hwf := Got.all rdCls_all hr.bd hgc
      simp -implicitDefEqProofs [t4, hn1]
      refine callQ_p (classMay_ok _ hwf) (by simp [encCls, Function.comp_def]) ?_
      cases hcm : clsMay ⟨name, args, L.map (·.1), L.map (·.2), fl⟩
      · have hcn : clsR s = none := by rw [hcs, hcm]; rfl
        have hrv := hc0 hcn
        simp -implicitDefEqProofs [t0]
        refine callQ_mono (fun r h2 ⟨r1, r2, r3⟩ => ?_) (hend _ (some l) k6 hcn (by simpa using hn1) (by simp [z0, b0]))
        have n2 : h.bn < h2.bn := by rw [r2]; simp; omega
        have b2 : h2.bx h.bn = some [.str ⟨#[]⟩, .int .i64 0, .sl .full [], .sl .full [], .bool false] := by rw [r3]; simp [z0, b0]
        simp -implicitDefEqProofs [t2, n2, b2, hrv]
        exact r1.so (Nat.le_refl _) hb _
      · have hcy : clsR s = some (⟨name, args, L.map (·.1), L.map (·.2), fl⟩, l) := by rw [hcs, hcm]; rfl
        have hrv : clsRV s = .tup [.agg (encCls ⟨name, args, L.map (·.1), L.map (·.2), fl⟩), .bool true] := by simp [clsRV, hcy]
        have hrs : clsRS s = some l := by simp [clsRS, hcy]
        simp -implicitDefEqProofs [t2, t4, hn1, z0, b0, hrv, hrs, show h.bn < h1.bn by omega]
        exact ⟨by simp [encCls, Function.comp_def], (k6.so (Nat.le_refl _) hb _).fin⟩
end Go.Proofs

/- Breakpoints: the document's answer and the program's. -/
namespace Go.Proofs
open Go Go.RowKit Go.Am

def bitN (b i : Nat) : Bool := decide (b / 2 ^ i % 2 = 1)
def Ctlg.inn (x : Ctlg) (c : Int) : Bool := decide (0 ≤ c) && decide (c < (x.classes.length : Int)) && decide (c < 4)
def Ctlg.brkAt (x : Ctlg) (c d i : Int) : Bool := x.inn c && x.inn d && decide (0 ≤ i) && decide (i + 1 < (x.stepsN c.toNat : Int)) && bitN (x.brk c.toNat d.toNat).toNat i.toNat

theorem Ctlg.take16 (x : Ctlg) (hb : x.breaks.length = 16) : List.take 16 (x.breaks.map (AV.int .i64)) = x.breaks.map (AV.int .i64) := List.take_of_length_le (by simp [hb])

/-- The unit of a step, as the document counts: how many breakpoints there are before it. -/
def Ctlg.unitN (x : Ctlg) (c d : Int) (i : Nat) : Nat := ((List.range i).filter fun j : Nat => x.brkAt c d j).length

end Go.Proofs

/- Units: their bounds, the document's and the program's. -/
namespace Go.Proofs
open Go Go.RowKit Go.Am

/-! ### The plain law -/
def loF (p : Nat → Bool) : Nat → Nat
  | 0 => 0
  | i + 1 => if p i then i + 1 else loF p i
def hiF (p : Nat → Bool) : Nat → Nat → Nat
  | 0, i => i
  | k + 1, i => if p i then i else hiF p k (i + 1)

theorem loF_le (p : Nat → Bool) (i : Nat) : loF p i ≤ i := by
  induction i with
  | zero => simp [loF]
  | succ i ih => simp only [loF]; split <;> omega
theorem loF_no (p : Nat → Bool) (i : Nat) : ∀ j, loF p i ≤ j → j < i → p j = false := by
  induction i with
  | zero => intro j _ h; omega
  | succ i ih =>
    intro j h1 h2
    simp only [loF] at h1
    split at h1
    · omega
    · by_cases h : j = i
      · subst h; simp_all
      · exact ih j h1 (by omega)
theorem loF_at (p : Nat → Bool) (i : Nat) : loF p i = 0 ∨ p (loF p i - 1) = true := by
  induction i with
  | zero => simp [loF]
  | succ i ih =>
    simp only [loF]
    split
    · right; simpa
    · exact ih
theorem hiF_ge (p : Nat → Bool) (k i : Nat) : i ≤ hiF p k i ∧ hiF p k i ≤ i + k := by
  induction k generalizing i with
  | zero => simp [hiF]
  | succ k ih =>
    simp only [hiF]
    have := ih (i + 1)
    split <;> omega
theorem hiF_no (p : Nat → Bool) (k i : Nat) : ∀ j, i ≤ j → j < hiF p k i → p j = false := by
  induction k generalizing i with
  | zero => intro j h1 h2; simp only [hiF] at h2; omega
  | succ k ih =>
    intro j h1 h2
    simp only [hiF] at h2
    split at h2
    · omega
    · by_cases h : j = i
      · subst h; simp_all
      · exact ih (i + 1) j (by omega) h2
theorem hiF_at (p : Nat → Bool) (k i : Nat) : hiF p k i = i + k ∨ p (hiF p k i) = true := by
  induction k generalizing i with
  | zero => simp [hiF]
  | succ k ih =>
    simp only [hiF]
    split
    · right; assumption
    · rcases ih (i + 1) with h | h
      · left; omega
      · right; exact h

/-- How many there are below. -/
def cntF (p : Nat → Bool) : Nat → Nat
  | 0 => 0
  | j + 1 => cntF p j + if p j then 1 else 0
theorem cntF_mono (p : Nat → Bool) {a b : Nat} (h : a ≤ b) : cntF p a ≤ cntF p b := by
  induction b with
  | zero => have : a = 0 := by omega
            subst this; exact Nat.le_refl _
  | succ b ih =>
    by_cases hb : a = b + 1
    · subst hb; exact Nat.le_refl _
    · have := ih (by omega)
      simp only [cntF]; omega
theorem cntF_same (p : Nat → Bool) {a b : Nat} (h : a ≤ b) (hn : ∀ j, a ≤ j → j < b → p j = false) : cntF p a = cntF p b := by
  induction b with
  | zero => have : a = 0 := by omega
            subst this; rfl
  | succ b ih =>
    by_cases hb : a = b + 1
    · subst hb; rfl
    · have h1 := ih (by omega) fun j h1 h2 => hn j h1 (by omega)
      have h2 := hn b (by omega) (by omega)
      simp [cntF, h1, h2]
theorem cntF_iff (p : Nat → Bool) {n i k : Nat} (hi : i < n) (hk : k < n) : cntF p k = cntF p i ↔ loF p i ≤ k ∧ k ≤ hiF p (n - 1 - i) i := by
  have l1 := loF_le p i
  have l2 := loF_no p i
  have l3 := loF_at p i
  have g1 := hiF_ge p (n - 1 - i) i
  have g2 := hiF_no p (n - 1 - i) i
  have g3 := hiF_at p (n - 1 - i) i
  generalize loF p i = lo at *
  generalize hiF p (n - 1 - i) i = hh at *
  constructor
  · intro he
    constructor
    · apply Nat.le_of_not_lt
      intro hlt
      rcases l3 with h | h
      · omega
      · have a1 := cntF_mono p (show k ≤ lo - 1 by omega)
        have a2 : cntF p (lo - 1 + 1) = cntF p (lo - 1) + 1 := by simp [cntF, h]
        have a3 := cntF_mono p (show lo - 1 + 1 ≤ i by omega)
        omega
    · apply Nat.le_of_not_lt
      intro hlt
      rcases g3 with h | h
      · omega
      · have a1 := cntF_mono p (show i ≤ hh by omega)
        have a2 : cntF p (hh + 1) = cntF p hh + 1 := by simp [cntF, h]
        have a3 := cntF_mono p (show hh + 1 ≤ k by omega)
        omega
  · rintro ⟨h1, h2⟩
    by_cases hki : k ≤ i
    · exact cntF_same p hki fun j q1 q2 => l2 j (by omega) q2
    · exact (cntF_same p (show i ≤ k by omega) fun j q1 q2 => g2 j q1 (by omega)).symm

theorem Ctlg.unitN_cnt (x : Ctlg) (c d : Int) (i : Nat) : x.unitN c d i = cntF (fun j : Nat => x.brkAt c d j) i := by
  induction i with
  | zero => simp [unitN, cntF]
  | succ i ih =>
    unfold unitN at ih ⊢
    rw [List.range_succ, List.filter_append, List.length_append, ih]
    by_cases h : x.brkAt c d i <;> simp [cntF, h]

def Ctlg.lo (x : Ctlg) (c d : Int) (i : Nat) : Nat := loF (fun j : Nat => x.brkAt c d j) i
def Ctlg.hi (x : Ctlg) (c d : Int) (i : Nat) : Nat := hiF (fun j : Nat => x.brkAt c d j) (x.stepsN c.toNat - 1 - i) i
def Ctlg.inb (x : Ctlg) (c d i : Int) : Bool := x.inn c && x.inn d && decide (0 ≤ i) && decide (i < (x.stepsN c.toNat : Int))
def bndV (x : Ctlg) (c d i : Int) : AV := if x.inb c d i then .tup [.int .i64 (x.lo c d i.toNat), .int .i64 (x.hi c d i.toNat), .bool true] else .tup [.int .i64 0, .int .i64 0, .bool false]

theorem pure_bndV (x : Ctlg) (c d i : Int) : PureV (bndV x c d i) := by
  unfold bndV
  split
  · exact .tup (pures_cons (.int _ _) (pures_cons (.int _ _) (pures1 (.bool _))))
  · exact .tup (pures_cons (.int _ _) (pures_cons (.int _ _) (pures1 (.bool _))))

/-! ### The document's -/
/-! ### The program's -/
theorem break1_ok (x : Ctlg) {h : H} {b : Nat} (hb : b < h.bn) (hx : h.bx b = some (encCtlg x)) {c : Int} : SCall Tryz.prog 38 [.int .i64 c, .ptr b 0] h (.bool (x.inn c)) h := by
  refine SCall.ro (CallP.run hb38 ok38 (by simp) ?_) (.bool _)
  simp only [encCtlg] at hx
  by_cases a1 : 0 ≤ c
  · simp -implicitDefEqProofs [hb, hx, a1, Ctlg.inn]
    exact ⟨by rw [Bool.eq_iff_iff]; simp; split <;> omega, HF.refl _ _ _⟩
  · simp -implicitDefEqProofs [a1, Ctlg.inn]
    exact HF.refl _ _ _

theorem bit_and {b i : Nat} (hb : b < 9223372036854775808) (hi : i ≤ 64) : IntKind.i64.wrap (((((b : Int).fdiv (2 ^ shAmt IntKind.i64 i) % 2 ^ IntKind.i64.bits).toNat &&& ((1 : Int) % 2 ^ IntKind.i64.bits).toNat : Nat)) : Int) = ((b / 2 ^ i % 2 : Nat) : Int) := by
  have e1 : shAmt IntKind.i64 (i : Int) = i := by simp only [shAmt, Int.toNat_natCast]; exact Nat.min_eq_left hi
  have e2 : (b : Int).fdiv (2 ^ i) = ((b / 2 ^ i : Nat) : Int) := by
    rw [Int.fdiv_eq_ediv_of_nonneg _ (by exact Int.pow_nonneg (by omega))]
    push_cast
    rfl
  have e3 : IntKind.i64.bits = 64 := rfl
  have hq : b / 2 ^ i ≤ b := Nat.div_le_self _ _
  rw [e1, e2, e3]
  generalize b / 2 ^ i = q at hq ⊢
  have e5 : ((q : Int) % 2 ^ 64).toNat = q := by omega
  have e6 : ((1 : Int) % 2 ^ 64).toNat = 1 := by decide
  rw [e5, e6, Nat.and_one_is_mod, wrap_i64] <;> omega

structure Ctlg.good (x : Ctlg) : Prop where
  wf : x.wf
  n4 : x.classes.length ≤ 4
  s4 : ∀ c (h : c < x.classes.length), x.classes[c].steps.length ≤ 4
  nn : ∀ c d, 0 ≤ x.brk c d

theorem break_ok (x : Ctlg) (hx : x.good) {c d i : Int} (hc : inI c) (hd : inI d) (hi : inI i) : PCall Tryz.prog 18 [.agg (encCtlg x), .int .i64 c, .int .i64 d, .int .i64 i] (.bool (x.brkAt c d i)) := by
  refine PCall.run hb18 ok18 (by simp) (pures_cons (.agg (pure_encCtlg x)) (pures_cons (.int _ _) (pures_cons (.int _ _) (pures1 (.int _ _))))) (.bool _) ?_
  obtain ⟨hw, h4, hs4, hnn⟩ := hx
  have htk := x.take16 hw.2.1
  have hbl := hw.2.1
  have hcw := hw.1.2
  simp -implicitDefEqProofs [encCtlg]
  refine callQ_s (break1_ok x (c := c) (b := 0) (by simp [H.nil]) (by simp [H.nil, encCtlg])) (by simp [H.nil]) ?_
  cases ec : x.inn c
  · simp -implicitDefEqProofs [Ctlg.brkAt, ec]
  simp -implicitDefEqProofs []
  refine callQ_s (break1_ok x (c := d) (b := 0) (by simp [H.nil]) (by simp [H.nil, encCtlg])) (by simp [H.nil]) ?_
  cases ed : x.inn d
  · simp -implicitDefEqProofs [Ctlg.brkAt, ec, ed]
  simp only [Ctlg.inn, Bool.and_eq_true, decide_eq_true_eq] at ec ed
  obtain ⟨⟨a1, a2⟩, a3⟩ := ec
  obtain ⟨⟨b1, b2⟩, b3⟩ := ed
  obtain ⟨c, rfl⟩ := Int.eq_ofNat_of_zero_le a1
  obtain ⟨d, rfl⟩ := Int.eq_ofNat_of_zero_le b1
  have a2 : c < x.classes.length := by omega
  have b2 : d < x.classes.length := by omega
  by_cases i1 : 0 ≤ i
  rotate_left
  · simp -implicitDefEqProofs [Ctlg.brkAt, i1, show i < 0 by omega]
  obtain ⟨i, rfl⟩ := Int.eq_ofNat_of_zero_le i1
  have hsl := hs4 c a2
  have hw1 : IntKind.i64.wrap ((x.classes[c].steps.length : Int) - 1) = (x.classes[c].steps.length : Int) - 1 := wrap_i64 (by omega) (by omega)
  by_cases i2 : i + 1 < x.classes[c].steps.length
  rotate_left
  · simp -implicitDefEqProofs [Ctlg.brkAt, a2, encCls, Ctlg.stepsN_of a2, hw1, show ¬ (i : Int) < 0 by omega, show (x.classes[c].steps.length : Int) - 1 ≤ i by omega, show ¬ (i : Int) + 1 < x.classes[c].steps.length by omega]
  have hbk := Ctlg.brk_load (x := x) (.sl .no (x.classes.map encCls)) hbl (show c < 4 by omega) (show d < 4 by omega)
  obtain ⟨b, hbe⟩ := Int.eq_ofNat_of_zero_le (hnn c d)
  simp -implicitDefEqProofs [a2, a3, b3, encCls, hw1, show ¬ (i : Int) < 0 by omega, show ¬ (x.classes[c].steps.length : Int) - 1 ≤ i by omega, hbk, hbl, show 1 + c * 4 + d + 1 ≤ 16 + 1 by omega, hbe, H.nil]
  have hbb : b < 9223372036854775808 := by
    have hbi : inI (x.brk c d) := by
      rw [Ctlg.brk_of hbl (show c < 4 by omega) (show d < 4 by omega)]
      exact hw.2.2 _ (List.getElem_mem _)
    rw [hbe] at hbi
    simp only [inI] at hbi
    omega
  have hand := bit_and (i := i) hbb (by omega)
  rw [hand]
  have he : ((b / 2 ^ i % 2 : Nat) : Int) = 1 ↔ b / 2 ^ i % 2 = 1 := by omega
  simp only [he]
  simp [Ctlg.brkAt, Ctlg.inn, a2, b2, a3, b3, Ctlg.stepsN_of a2, hbe, bitN, show (i : Int) + 1 < x.classes[c].steps.length by omega]
end Go.Proofs

/- Units: their bounds, the program's; whether a place is open. -/
namespace Go.Proofs
open Go Go.RowKit Go.Am

/-- Is the place before a step open? -/
def Ctlg.openAt (x : Ctlg) (c d i : Int) : Bool := x.inb c d (i - 1) && decide (i - 1 < (x.hi c d (i - 1).toNat : Int))
end Go.Proofs

/- Units: the law's own first look; catalogues that are opened and closed. -/
namespace Go.Proofs
open Go Go.RowKit Go.Am

def aliveC : Ctlg := ⟨[⟨⟨#[97]⟩, 0, List.replicate 3 ⟨[⟨5, 0, 0, 0, ⟨0, 0⟩, ⟨0, 0⟩, 0⟩], []⟩, List.replicate 3 ⟨[], []⟩, false⟩], 2 :: List.replicate 15 0⟩
theorem aliveC_good : aliveC.good where
  wf := by
    refine ⟨⟨by decide, ?_⟩, by decide, ?_⟩
    · intro y hy
      simp only [aliveC, List.mem_singleton] at hy
      subst hy
      refine ⟨by decide, by simp [inI], ⟨by decide, ?_⟩, by decide, ?_⟩
      · intro y hy
        obtain rfl := List.eq_of_mem_replicate hy
        refine ⟨⟨by decide, ?_⟩, by decide, by simp⟩
        intro y hy
        simp only [List.mem_singleton] at hy
        subst hy
        simp [Inst.wf, KeyT.wf, inI]
      · intro y hy
        obtain rfl := List.eq_of_mem_replicate hy
        exact ⟨⟨by decide, by simp⟩, by decide, by simp⟩
    · intro y hy
      simp only [aliveC, List.mem_cons, List.mem_replicate] at hy
      rcases hy with rfl | ⟨_, rfl⟩ <;> simp [inI]
  n4 := by decide
  s4 := by
    intro c h
    simp [aliveC] at h
    subst h
    simp [aliveC]
  nn := by
    intro c d
    have : ∀ k : Nat, 0 ≤ (aliveC.breaks[k]?).getD 0 := by
      intro k
      rcases h : aliveC.breaks[k]? with _ | v
      · simp
      · have := List.mem_of_getElem? h
        simp only [aliveC, List.mem_cons, List.mem_replicate] at this
        rcases this with rfl | ⟨_, rfl⟩ <;> simp
    exact this (4 * c + d)

end Go.Proofs

/- Catalogues that are copied. -/
namespace Go.Proofs
open Go Go.RowKit Go.Am

section
variable {α : Type} {enc : α → List AV} {z : Nat}
theorem flatM_len (he : ∀ x, (enc x).length = z) (l : List α) : (l.map enc).flatten.length = l.length * z := by
  rw [flatten_len (z := z) (by simp [he]), List.length_map]
theorem chunks_of (he : ∀ x, (enc x).length = z) : ∀ (l : List α) (r : List AV), chunks z l.length ((l.map enc).flatten ++ r) = l.map enc
  | [], _ => rfl
  | x :: l, r => by
    have e1 : (enc x).length = z := he x
    simp only [List.map_cons, List.flatten_cons, List.length_cons, chunks, List.append_assoc]
    rw [List.take_left' e1, List.drop_left' e1, chunks_of he l]
theorem flat_take (he : ∀ x, (enc x).length = z) : ∀ (l : List α) (j : Nat) (h : j < l.length), List.take z (List.drop (j * z) (l.map enc).flatten) = enc l[j]
  | x :: l, 0, _ => by simp [List.take_left' (he x)]
  | x :: l, j + 1, h => by
    rw [List.map_cons, List.flatten_cons, show (j + 1) * z = (enc x).length + j * z by rw [he x, Nat.add_mul]; omega, ← List.drop_drop, List.drop_left' rfl, flat_take he l j (by simpa using h)]
    rfl
theorem flat_set (he : ∀ x, (enc x).length = z) : ∀ (l : List α) (j : Nat) (y : α), j < l.length → List.take (j * z) (l.map enc).flatten ++ (enc y ++ List.drop (j * z + z) (l.map enc).flatten) = ((l.set j y).map enc).flatten
  | x :: l, 0, y, _ => by simp [List.drop_left' (he x)]
  | x :: l, j + 1, y, h => by
    have ih := flat_set he l j y (by simpa using h)
    rw [List.map_cons, List.flatten_cons, show (j + 1) * z = (enc x).length + j * z by rw [he x, Nat.add_mul]; omega, List.take_length_add_append, Nat.add_assoc, ← List.drop_drop, List.drop_left' rfl, List.append_assoc, ih]
    rfl
end

def Stp.small (s : Stp) : Prop := s.code.length ≤ 8 ∧ s.foot.length ≤ 4

theorem cloneInst_ok (l : List Inst) (hl : l.length ≤ 1000) : PCall Tryz.prog 81 [.sl .no (l.map encInst)] (.sl .no (l.map encInst)) :=
  clone_gen hb81 ok81 _ (by simp) (elOK_Inst.pureL l) (by simp) (by simp; omega)
theorem cloneSpanT_ok (l : List SpanT) (hl : l.length ≤ 1000) : PCall Tryz.prog 82 [.sl .no (l.map encSpanT)] (.sl .no (l.map encSpanT)) :=
  clone_gen hb82 ok82 _ (by simp) (elOK_SpanT.pureL l) (by simp) (by simp; omega)

theorem steps_ok (l : List Stp) (h0 : 0 < l.length) (h4 : l.length ≤ 4) (hs : ∀ s ∈ l, s.small) : PCall Tryz.prog 59 [.sl .no (l.map encStp)] (.sl .no (l.map encStp)) := by
  refine PCall.run' hb59 ok59 (by simp) (pures1 (pure_sl pure_encStp _)) (pure_sl pure_encStp _) (by simp) ?_
  simp -implicitDefEqProofs []
  refine callQ_s (clone_box hb80 ok80 (h := H.nil) (l.map encStp) (by simpa using h0) (by simp) (by
    intro v hv
    simp only [List.mem_flatten, List.mem_map] at hv
    obtain ⟨_, ⟨s, _, rfl⟩, hv⟩ := hv
    exact pure_encStp s v hv) (by simp; omega)) (by simp) ?_
  simp -implicitDefEqProofs [H.nil]
  have hfl : (l.map encStp).flatten.length = l.length * 2 := flatM_len (by simp) l
  refine run_loop (fun n s h => ∃ j : Nat, n = l.length - j ∧ j ≤ l.length ∧ s 3 = .msl 0 2 0 l.length ∧ s 8 = .msl 0 2 0 l.length ∧ 0 < h.bn ∧ h.bx 0 = some (l.map encStp).flatten ∧ s 9 = .int .i64 l.length ∧ s 10 = .int .i64 j) ?_ l.length ?_
  rotate_left
  · exact ⟨0, by simp⟩
  rintro n s h ⟨j, hn, hj, h3, h8, h0, hb, h9, h10⟩ ih
  by_cases hlt : j < l.length
  · have htk := flat_take (z := 2) (enc := encStp) (by simp) l j hlt
    have hle : j * 2 + 2 ≤ l.length * 2 := by omega
    have hsm := hs _ (List.getElem_mem hlt)
    have hset := flat_set (z := 2) (enc := encStp) (by simp) l j l[j] hlt
    rw [List.set_getElem_self] at hset
    simp only [encStp, List.cons_append, List.nil_append] at hset htk
    simp -implicitDefEqProofs [h8, h0, hb, h9, h10, hlt, hfl, hle, htk]
    refine run_dreg c59_d6 ?_
    simp -implicitDefEqProofs [h3]
    refine lcallQ_p (cloneInst_ok l[j].code (by have := hsm.1; omega)) (by simp) ?_
    simp -implicitDefEqProofs []
    refine lcallQ_p (cloneSpanT_ok l[j].foot (by have := hsm.2; omega)) (by simp) ?_
    simp -implicitDefEqProofs [hb, h10, hlt, hfl, hle, hset, show ¬ 0 = h.bn by omega, inc_i64 hlt (by omega), -Int.natCast_add]
    exact ih (l.length - (j + 1)) _ _ (by omega) ⟨j + 1, rfl, by omega, by simp [h3], by simp [h8], by simp, by simp, by simp [h9], by simp⟩
  · simp -implicitDefEqProofs [h3, h9, h10, hlt]
    have := Gh.msl (z := 2) (n := l.length) h0 hb (by omega) (by omega)
    have e := chunks_of (z := 2) (enc := encStp) (by simp) l []
    rw [List.append_nil] at e
    rw [e] at this
    exact ⟨_, this⟩

def Cls.small (c : Cls) : Prop := 0 < c.steps.length ∧ c.steps.length ≤ 4 ∧ c.comps.length = c.steps.length ∧ (∀ s ∈ c.steps, s.small) ∧ ∀ s ∈ c.comps, s.small
def Ctlg.small (x : Ctlg) : Prop := 0 < x.classes.length ∧ x.classes.length ≤ 4 ∧ (∀ c ∈ x.classes, c.small) ∧ x.breaks.length = 16

theorem put_same {F : List AV} {k : Nat} {v : AV} (h : F[k]? = some v) : List.take k F ++ v :: List.drop (k + 1) F = F := by
  obtain ⟨hk, rfl⟩ := List.getElem?_eq_some_iff.1 h
  rw [← List.drop_eq_getElem_cons hk, List.take_append_drop]
theorem flatC_get (l : List Cls) {j k : Nat} (hj : j < l.length) (hk : k < 5) : (l.map encCls).flatten[j * 5 + k]? = some ((encCls l[j])[k]'(by simpa using hk)) := by
  rw [flatten_get (z := 5) (by simp) j k hk, List.getElem?_map, List.getElem?_eq_getElem hj]
  simp []

theorem copied_ok (x : Ctlg) (hx : x.small) : PCall Tryz.prog 32 [.agg (encCtlg x)] (.agg (encCtlg x)) := by
  refine PCall.run' hb32 ok32 (by simp) (pures1 (.agg (pure_encCtlg x))) (.agg (pure_encCtlg x)) (by simp) ?_
  obtain ⟨hn0, hn4, hcs, hbl⟩ := hx
  have htk := x.take16 hbl
  simp -implicitDefEqProofs [encCtlg, hbl]
  refine callQ_s (clone_box hb58 ok58 (x.classes.map encCls) (by simpa using hn0) (by simp) (by
    intro v hv
    simp only [List.mem_flatten, List.mem_map] at hv
    obtain ⟨_, ⟨s, _, rfl⟩, hv⟩ := hv
    exact pure_encCls s v hv) (by simp; omega)) (by simp) ?_
  simp -implicitDefEqProofs [H.nil, hbl]
  have hfl : (x.classes.map encCls).flatten.length = x.classes.length * 5 := flatM_len (by simp) x.classes
  refine run_loop (fun n s h => ∃ j : Nat, n = x.classes.length - j ∧ j ≤ x.classes.length ∧ s 1 = .ptr 0 0 ∧ s 2 = .ptr 1 0 ∧ s 10 = .msl 2 5 0 x.classes.length ∧ 2 < h.bn ∧ h.bx 0 = some (.msl 2 5 0 x.classes.length :: x.breaks.map (AV.int .i64)) ∧ (∃ cs, h.bx 1 = some cs ∧ cs.length = 17) ∧ h.bx 2 = some (x.classes.map encCls).flatten ∧ s 11 = .int .i64 x.classes.length ∧ s 12 = .int .i64 j) ?_ x.classes.length ?_
  rotate_left
  · exact ⟨0, by simp⟩
  rintro n s h ⟨j, hn, hj, h1, h2, h10, h0, hb0, ⟨cs, hb1, hcl⟩, hb2, h11, h12⟩ ih
  by_cases hlt : j < x.classes.length
  · have htk := flat_take (z := 5) (enc := encCls) (by simp) x.classes j hlt
    have hle : j * 5 + 5 ≤ x.classes.length * 5 := by omega
    have hsm := hcs _ (List.getElem_mem hlt)
    have hset := flat_set (z := 5) (enc := encCls) (by simp) x.classes j x.classes[j] hlt
    rw [List.set_getElem_self] at hset
    simp -implicitDefEqProofs [h10, h0, hb2, h11, h12, hlt, hfl, hle, htk]
    refine run_dreg c32_d6 ?_
    simp -implicitDefEqProofs [h1, hb0, show ¬ 0 = h.bn by omega, encCls, show 0 < h.bn + 1 by omega]
    have hst : x.classes[j].steps.length ≤ 4 := hsm.2.1
    refine lcallQ_p (steps_ok x.classes[j].steps hsm.1 hst hsm.2.2.2.1) (by simp) ?_
    simp -implicitDefEqProofs []
    refine lcallQ_p (steps_ok x.classes[j].comps (by rw [hsm.2.2.1]; exact hsm.1) (by rw [hsm.2.2.1]; exact hst) hsm.2.2.2.2) (by simp) ?_
    have hp2 := put_same (flatC_get x.classes hlt (k := 2) (by omega))
    have hp3 := put_same (flatC_get x.classes hlt (k := 3) (by omega))
    simp only [encCls, List.getElem_cons_succ, List.getElem_cons_zero] at hp2 hp3
    simp -implicitDefEqProofs [hb0, hb2, h12, hlt, hfl, show ¬ 2 = h.bn by omega, show ¬ 0 = h.bn by omega, hp2, hp3, inc_i64 hlt (by omega), -Int.natCast_add, show j * 5 + 2 + 1 ≤ x.classes.length * 5 by omega, show 2 < h.bn + 1 by omega, show ¬ h.bn = 2 by omega, encCls]
    refine ⟨by omega, ?_⟩
    exact ih (x.classes.length - (j + 1)) _ _ (by omega) ⟨j + 1, rfl, by omega, by simp [h1], by simp [h2], by simp [h10], by simp; omega, by simp [hb0, show ¬ 0 = h.bn by omega], ⟨cs, by simp [hb1, show ¬ 1 = h.bn by omega], hcl⟩, by simp, by simp [h11], by simp⟩
  · simp -implicitDefEqProofs [h1, h2, hb0, hb1, h11, h12, hlt, hbl, htk, hcl, show 0 < h.bn by omega, show 1 < h.bn by omega]
    have := Gh.aggMsl (z := 5) (n := x.classes.length) (h := h.set 1 (.msl 2 5 0 x.classes.length :: (x.breaks.map (AV.int .i64) ++ List.drop 17 cs))) (b := 2) (cs := (x.classes.map encCls).flatten) (rest := x.breaks.map (AV.int .i64)) (by simpa using h0) (by simp [hb2]) (by omega) (by omega)
    have e := chunks_of (z := 5) (enc := encCls) (by simp) x.classes []
    rw [List.append_nil] at e
    rw [e] at this
    exact ⟨_, this⟩

/-- A catalogue with other breakpoints. -/
def Ctlg.with (x : Ctlg) (l : List Int) : Ctlg := ⟨x.classes, l⟩
def closedOf (x : Ctlg) : Ctlg := x.with (List.replicate 16 0)

def Cls.all (c : Cls) : Int := 2 ^ (c.steps.length - 1) - 1
theorem all_ok (c : Cls) (hc : c.small) : PCall Tryz.prog 34 [.agg (encCls c)] (.int .i64 c.all) := by
  refine PCall.run hb34 ok34 (by simp) (pures1 (.agg (pure_encCls c))) (.int _ _) ?_
  have h := hc
  obtain ⟨h0, h4, _⟩ := h
  have w0 : ∀ k : Nat, k ≤ 15 → IntKind.i64.wrap (k : Int) = k := fun k hk => wrap_i64 (by omega) (by omega)
  have wa := w0 0 (by omega)
  have wb := w0 1 (by omega)
  have wc := w0 2 (by omega)
  have wd := w0 3 (by omega)
  have we := w0 4 (by omega)
  have wf := w0 7 (by omega)
  have wg := w0 8 (by omega)
  simp only [Int.cast_ofNat_Int] at wa wb wc wd we wf wg
  have hl : c.steps.length = 1 ∨ c.steps.length = 2 ∨ c.steps.length = 3 ∨ c.steps.length = 4 := by omega
  rcases hl with hl | hl | hl | hl <;> simp -implicitDefEqProofs [encCls, hl, wa, wb, wc, wd, we, wf, wg, shAmt, IntKind.bits, Cls.all]
end Go.Proofs
