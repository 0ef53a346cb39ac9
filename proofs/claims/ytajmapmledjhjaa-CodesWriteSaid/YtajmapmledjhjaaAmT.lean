/- Running code forward: what a piece of code is to bring about. -/
import Derived.Test.YtajmapmledjhjaaAmS
namespace Go.Am
open Go Go.RowKit

/-! ### A value that says less: no token -/
mutual
def wk : AV → AV
  | .sl _ es => .sl .no (wkLL es)
  | .rop cs => .rop (wkL cs)
  | .fn f a b => .fn f (wkL a) (wkL b)
  | .agg cs => .agg (wkL cs)
  | .tup cs => .tup (wkL cs)
  | .iface t v => .iface t (wk v)
  | .undef => .undef
  | .bool b => .bool b
  | .ubool => .ubool
  | .int k n => .int k n
  | .str s => .str s
  | .msl b z o l => .msl b z o l
  | .nilptr => .nilptr
  | .ptr b o => .ptr b o
  | .nilfn => .nilfn
  | .yld l => .yld l
  | .nilmap => .nilmap
  | .map m => .map m
  | .niface => .niface
def wkL : List AV → List AV
  | [] => []
  | v :: vs => wk v :: wkL vs
def wkLL : List (List AV) → List (List AV)
  | [] => []
  | v :: vs => wkL v :: wkLL vs
end

theorem wkL_map : ∀ (l : List AV), wkL l = l.map wk
  | [] => by simp [wkL]
  | v :: l => by simp [wkL, wkL_map l]
theorem wkLL_map : ∀ (l : List (List AV)), wkLL l = l.map (List.map wk)
  | [] => by simp [wkLL]
  | v :: l => by simp [wkLL, wkLL_map l, wkL_map]

theorem ok1_wk (v : AV) : ok1 (wk v) = ok1 v := by cases v <;> simp [wk, ok1]

section
variable {P : Program} {base : Nat} {W : Nat → Prop}

theorem Rep.wk {w : World} {g : G} {v : AV} {V : Value} (h : Rep w g v V) : Rep w g (wk v) V := by
  induction h with
  | undef V => simp only [Am.wk]; exact .undef V
  | bool b => simp only [Am.wk]; exact .bool b
  | ubool b => simp only [Am.wk]; exact .ubool b
  | int k n => simp only [Am.wk]; exact .int k n
  | str s => simp only [Am.wk]; exact .str s
  | sl t es A cap z Vs h1 h2 h3 _ h4 h5 ih =>
    simp only [Am.wk, wkLL_map]
    have hf : (es.map (List.map Am.wk)).flatten = es.flatten.map Am.wk := by rw [List.map_flatten]
    have hl : es.length = (es.map (List.map Am.wk)).length := by simp
    rw [hl]
    refine .sl .no (es.map (List.map Am.wk)) A cap z Vs ⟨h1.1, fun e he => ?_⟩ (by simpa using h2) (fun k hk => h3 k (by rw [hf, List.length_map] at hk; exact hk)) (fun k hk => ?_) (fun k hk => ?_) trivial
    · obtain ⟨e', he', rfl⟩ := List.mem_map.1 he
      simpa using h1.2 e' he'
    · have hk' : k < es.flatten.length := by rw [hf, List.length_map] at hk; exact hk
      have e1 : (es.map (List.map Am.wk)).flatten[k] = Am.wk es.flatten[k] := by simp only [hf, List.getElem_map]
      rw [e1]
      exact ih k hk'
    · have hk' : k < es.flatten.length := by rw [hf, List.length_map] at hk; exact hk
      have e1 : (es.map (List.map Am.wk)).flatten[k] = Am.wk es.flatten[k] := by simp only [hf, List.getElem_map]
      rw [e1, ok1_wk]
      exact h4 k hk'
  | msl b z off len cap hb hl hz => simp only [Am.wk]; exact .msl b z off len cap hb hl hz
  | nilptr => simp only [Am.wk]; exact .nilptr
  | ptr b o hb => simp only [Am.wk]; exact .ptr b o hb
  | rop cs a Vs h1 _ h2 ih =>
    simp only [Am.wk, wkL_map]
    refine .rop _ a Vs (fun k hk => h1 k (by simpa using hk)) (fun k hk => ?_) (fun k hk => ?_)
    · simp only [List.getElem_map]; exact ih k (by simpa using hk)
    · simp only [List.getElem_map, ok1_wk]; exact h2 k (by simpa using hk)
  | nilfn => simp only [Am.wk]; exact .nilfn
  | fn f first caps F C hF hC _ _ ih1 ih2 =>
    simp only [Am.wk, wkL_map]
    refine .fn f _ _ F C (by simpa using hF) (by simpa using hC) (fun k hk => ?_) (fun k hk => ?_)
    · simp only [List.getElem_map]; exact ih1 k (by simpa using hk)
    · simp only [List.getElem_map]; exact ih2 k (by simpa using hk)
  | yld l hl => simp only [Am.wk]; exact .yld l hl
  | agg cs C hC _ h2 ih =>
    simp only [Am.wk, wkL_map]
    refine .agg _ C (by simpa using hC) (fun k hk => ?_) (fun k hk => ?_)
    · simp only [List.getElem_map]; exact ih k (by simpa using hk)
    · simp only [List.getElem_map, ok1_wk]; exact h2 k (by simpa using hk)
  | tup cs C hC _ ih =>
    simp only [Am.wk, wkL_map]
    refine .tup _ C (by simpa using hC) (fun k hk => ?_)
    simp only [List.getElem_map]; exact ih k (by simpa using hk)
  | nilmap => simp only [Am.wk]; exact .nilmap
  | map m hm => simp only [Am.wk]; exact .map m hm
  | niface => simp only [Am.wk]; exact .niface
  | iface t v V _ ih => simp only [Am.wk]; exact .iface t _ V ih

theorem SCall.wk {f : FuncId} {args : List AV} {h : H} {r : AV} {h' : H} (hc : SCall P f (args.map wk) h r h') : SCall P f args h r h' :=
  ⟨hc.1, fun base W w g Args hs hA => hc.2 base W w g Args hs ⟨by simpa using hA.1, fun k hk => by simp only [List.getElem_map]; exact (hA.2 k (by simpa using hk)).wk⟩⟩

/-- A function that reads its arguments and hands back a value, and no more. -/
def PCall (P : Program) (f : FuncId) (args : List AV) (r : AV) : Prop := ∀ h, SCall P f args h r h

/-! ### What an operation is to bring about -/
def ob {α : Type} (o : Option α) (K : α → Prop) : Prop :=
  match o with
  | some v => K v
  | none => False
def condQ (v : AV) (K : Bool → Prop) : Prop :=
  match v with
  | .bool b => K b
  | _ => False
def CallR (P : Program) (f : AV) (args : List AV) (h : H) (r : AV) (h1 : H) : Prop :=
  match f with
  | .fn F first caps => SCall P F (first ++ args ++ caps) h r h1
  | .yld l => SYld P l args h r h1
  | _ => False
def callQ (P : Program) (f : AV) (args : List AV) (h : H) (K : AV → H → Prop) : Prop := ∃ r h1, CallR P f args h r h1 ∧ K r h1
def appQ (h : H) (sz bytes : Nat) (s x : AV) (K : AV → H → Prop) : Prop := ∃ v h1, AppR h sz bytes s x v h1 ∧ K v h1
def storeQ (h : H) (n : Nat) (a x : AV) (K : AV → H → Prop) : Prop :=
  match a with
  | .ptr b o => ob (h.bx b) fun cs => ob (fit n x) fun xs => (b < h.bn ∧ o + n ≤ cs.length) ∧ K .undef (h.set b (cs.take o ++ xs ++ cs.drop (o + n)))
  | _ => False
def mkQ (P : Program) (e : Opd → AV) (h : H) (op : IOp) (K : AV → H → Prop) : Prop := ∃ v h1, InsR P e h op v h1 ∧ K v h1

def wpI (P : Program) (op : IOp) (e : Opd → AV) (h : H) (K : AV → H → Prop) : Prop :=
  match op with
  | .alloc z => K (.ptr h.bn 0) (h.alloc z)
  | .box x => ob (boxCells (e x)) fun cs => K (.ptr h.bn 0) (h.alloc cs)
  | .store n a x => storeQ h n (e a) (e x) K
  | .append sz b s x => appQ h sz b (e s) (e x) K
  | .mksl sz b z l c => mkQ P e h (.mksl sz b z l c) K
  | .call f args => callQ P (e f) (args.map e) h K
  | op => ob (pv op e h) fun v => K v h

theorem wpI_sound {op : IOp} {e : Opd → AV} {h : H} {K : AV → H → Prop} (hw : wpI P op e h K) : ∃ v h1, InsR P e h op v h1 ∧ K v h1 := by
  have hp : ob (pv op e h) (fun v => K v h) → ∃ v h1, InsR P e h op v h1 ∧ K v h1 := fun hw => by
    cases hv : pv op e h with
    | none => rw [hv] at hw; exact hw.elim
    | some v => rw [hv] at hw; exact ⟨v, h, .pure op v hv, hw⟩
  cases op with
  | alloc z => exact ⟨_, _, .alloc z, hw⟩
  | box x =>
    simp only [wpI] at hw
    cases hc : boxCells (e x) with
    | none => rw [hc] at hw; exact hw.elim
    | some cs => rw [hc] at hw; exact ⟨_, _, .box x cs hc, hw⟩
  | store n a x =>
    simp only [wpI, storeQ] at hw
    split at hw
    · rename_i b o ha
      cases hb : h.bx b with
      | none => rw [hb] at hw; exact hw.elim
      | some cs =>
        rw [hb] at hw
        cases hx : fit n (e x) with
        | none => rw [hx] at hw; exact hw.elim
        | some xs =>
          rw [hx] at hw
          exact ⟨_, _, .store n a x b o cs xs ha hw.1.1 hb hx hw.1.2, hw.2⟩
    · exact hw.elim
  | append sz b s x =>
    obtain ⟨v, h1, q1, q2⟩ := hw
    exact ⟨v, h1, .append sz b s x v h1 q1, q2⟩
  | mksl sz b z l c => exact hw
  | call f args =>
    obtain ⟨v, h1, q1, q2⟩ := hw
    refine ⟨v, h1, ?_, q2⟩
    simp only [CallR] at q1
    split at q1
    · rename_i F first caps hf
      exact .callF f args F first caps v h1 hf q1
    · rename_i l hl
      exact .callY f args l v h1 hl q1
    · exact q1.elim
  | _ => exact hp hw

def gd (g : Option (Nat × Bool)) (s : Slots) (A B : Prop) : Prop :=
  match g with
  | none => A
  | some (t, b) => condQ (s t) fun c => if c = b then A else B

def RO (P : Program) : List Ins → Slots → H → (Slots → H → Prop) → Prop
  | [], s, h, Q => Q s h
  | x :: is, s, h, Q => gd x.g s (wpI P x.op (ev s) h fun v h1 => RO P is (put s x.dst v) h1 Q) (RO P is (put s x.dst .undef) h Q)

theorem gd_sound {g : Option (Nat × Bool)} {s : Slots} {A B : Prop} (h : gd g s A B) : (∃ t b, g = some (t, b) ∧ s t = .bool (!b) ∧ B) ∨ ((∀ t b, g = some (t, b) → s t = .bool b) ∧ A) := by
  cases g with
  | none => exact .inr ⟨fun _ _ h => by (cases h), h⟩
  | some p =>
    obtain ⟨t, b⟩ := p
    simp only [gd, condQ] at h
    split at h
    · rename_i c hc
      split at h
      · rename_i hcb
        subst hcb
        exact .inr ⟨fun t' b' h' => by (cases h'; exact hc), h⟩
      · rename_i hcb
        refine .inl ⟨t, b, rfl, ?_, h⟩
        rw [hc]
        cases c <;> cases b <;> simp_all
    · exact h.elim

theorem RO_sound : ∀ {is : List Ins} {s : Slots} {h : H} {Q : Slots → H → Prop}, RO P is s h Q → ∃ s1 h1, OpsR P is s h s1 h1 ∧ Q s1 h1
  | [], s, h, Q, hr => ⟨s, h, .nil s h, hr⟩
  | x :: is, s, h, Q, hr => by
    rcases gd_sound hr with ⟨t, b, q1, q2, q3⟩ | ⟨q1, q2⟩
    · obtain ⟨s1, h1, r1, r2⟩ := RO_sound q3
      exact ⟨s1, h1, .skip x is s h s1 h1 t b q1 q2 r1, r2⟩
    · obtain ⟨v, h1, p1, p2⟩ := wpI_sound q2
      obtain ⟨s1, h2, r1, r2⟩ := RO_sound p2
      exact ⟨s1, h2, .step x is s h v h1 s1 h2 q1 p1 r1, r2⟩

/-! ### Drawn regions -/
structure Obl where
  lo : Nat
  hi : Nat
  p : H → Prop

def Obl.ok (o : Obl) (hist : List H) : Prop := ∀ h ∈ (hist.drop o.lo).take (o.hi + 1 - o.lo), o.p h

def lastH (h0 : H) : List H → H
  | [] => h0
  | h :: hs => lastH h hs

def IOp.free : IOp → Bool
  | .load .. | .lookup .. | .append .. | .call .. | .alloc _ | .box _ | .store .. | .mksl .. => false
  | _ => true

theorem pv_free {op : IOp} (hf : op.free = true) (e : Opd → AV) (h h' : H) : pv op e h = pv op e h' := by
  cases op <;> first | rfl | cases hf

def RD (P : Program) : List Ins → List Mark → Slots → H → List H → List Obl → (Slots → H → Prop) → Prop
  | [], _, s, h0, hist, obl, Q => (∀ o ∈ obl, o.ok (h0 :: hist)) ∧ Q s (lastH h0 hist)
  | x :: is, ⟨true, _, _⟩ :: ms, s, h0, hist, obl, Q =>
    gd x.g s (wpI P x.op (ev s) (lastH h0 hist) fun v h1 => RD P is ms (put s x.dst v) h0 (hist ++ [h1]) obl Q) (RD P is ms (put s x.dst .undef) h0 (hist ++ [lastH h0 hist]) obl Q)
  | x :: is, ⟨false, lo, hi⟩ :: ms, s, h0, hist, obl, Q =>
    gd x.g s (match x.op with
      | .load n ag y => ob (pv (.load n ag y) (ev s) (lastH h0 hist)) fun v => RD P is ms (put s x.dst v) h0 hist (⟨lo, hi, fun h => pv (.load n ag y) (ev s) h = some v⟩ :: obl) Q
      | .lookup z m k ok => ob (pv (.lookup z m k ok) (ev s) (lastH h0 hist)) fun v => RD P is ms (put s x.dst v) h0 hist (⟨lo, hi, fun h => pv (.lookup z m k ok) (ev s) h = some v⟩ :: obl) Q
      | .call f args => ∃ v, (∀ h, CallR P (ev s f) (args.map (ev s)) h v h) ∧ RD P is ms (put s x.dst v) h0 hist obl Q
      | .append sz b y z => ∃ v, (∀ h, AppR h sz b (ev s y) (ev s z) v h) ∧ RD P is ms (put s x.dst v) h0 hist obl Q
      | .mksl sz b z l c => ∃ v, (∀ h, InsR P (ev s) h (.mksl sz b z l c) v h) ∧ RD P is ms (put s x.dst v) h0 hist obl Q
      | .alloc _ | .box _ | .store .. => False
      | op => ob (pv op (ev s) h0) fun v => RD P is ms (put s x.dst v) h0 hist obl Q) (RD P is ms (put s x.dst .undef) h0 hist obl Q)
  | _ :: _, [], _, _, _, _, _ => False

/-- What a drawn region's forward run has shown. -/
structure Shown (P : Program) (is : List Ins) (ms : List Mark) (s : Slots) (h0 : H) (hist : List H) (obl : List Obl) (Q : Slots → H → Prop) (vs : List AV) (more : List H) : Prop where
  len : vs.length = is.length
  obl : ∀ o ∈ obl, o.ok (h0 :: (hist ++ more))
  cnt : more.length = hcN ms is.length
  fin : Q (slN is (fun i => vs.getD i .undef) s (txt is.length)) (lastH h0 (hist ++ more))
  spec : ∀ i, i < is.length → ∀ x, is[i]? = some x → if isHv ms i then StepR P x (slN is (fun i => vs.getD i .undef) s (txt i)) ((h0 :: (hist ++ more)).getD (hist.length + hcN ms i) h0) (vs.getD i .undef) ((h0 :: (hist ++ more)).getD (hist.length + hcN ms i + 1) h0)
    else ∀ k, loN ms i ≤ k → k ≤ hiN ms i → k ≤ hist.length + hcN ms is.length → StepR P x (slN is (fun i => vs.getD i .undef) s (txt i)) ((h0 :: (hist ++ more)).getD k h0) (vs.getD i .undef) ((h0 :: (hist ++ more)).getD k h0)

theorem hcN_cons (m : Mark) (ms : List Mark) (i : Nat) : hcN (m :: ms) (i + 1) = (if m.hv then 1 else 0) + hcN ms i := by
  induction i with
  | zero => simp [hcN, isHv]
  | succ i ih =>
    have : isHv (m :: ms) (i + 1) = isHv ms i := by simp [isHv]
    rw [show hcN (m :: ms) (i + 1 + 1) = hcN (m :: ms) (i + 1) + (if isHv (m :: ms) (i + 1) then 1 else 0) from rfl, ih, this]
    simp only [hcN]
    omega

theorem slN_cons (x : Ins) (is : List Ins) (v : AV) (vs : List AV) (s : Slots) (i : Nat) :
    slN (x :: is) (fun i => (v :: vs).getD i .undef) s (txt (i + 1)) = slN is (fun i => vs.getD i .undef) (put s x.dst v) (txt i) := by
  induction i with
  | zero => simp [txt, slN, dstN]
  | succ i ih =>
    have h1 : dstN (x :: is) (i + 1) = dstN is i := by simp [dstN]
    rw [show txt (i + 1 + 1) = (i + 1) :: txt (i + 1) from rfl]
    simp only [slN, h1]
    rw [ih]
    simp [txt, slN]

theorem lastH_snoc (h0 : H) (hist : List H) (h1 : H) : lastH h0 (hist ++ [h1]) = h1 := by
  induction hist generalizing h0 with
  | nil => rfl
  | cons h hist ih => exact ih h

theorem getD_last (h0 : H) (hist more : List H) (d : H) : (h0 :: (hist ++ more)).getD hist.length d = lastH h0 hist := by
  induction hist generalizing h0 with
  | nil => rfl
  | cons h hist ih => exact ih h

/-- One operation more, ahead. -/
theorem Shown.cons {x : Ins} {is : List Ins} {m : Mark} {ms : List Mark} {s : Slots} {h0 : H} {hist hist1 : List H} {obl obl1 : List Obl} {Q : Slots → H → Prop} {v : AV} {vs : List AV} {more more1 : List H}
    (hs : Shown P is ms (put s x.dst v) h0 hist1 obl1 Q vs more1) (hh : hist1 ++ more1 = hist ++ more) (hl : hist1.length = hist.length + if m.hv then 1 else 0) (ho : ∀ o ∈ obl, o ∈ obl1)
    (hx : if m.hv then StepR P x s ((h0 :: (hist ++ more)).getD hist.length h0) v ((h0 :: (hist ++ more)).getD (hist.length + 1) h0) else ∀ k, m.lo ≤ k → k ≤ m.hi → k ≤ hist.length + hcN ms is.length → StepR P x s ((h0 :: (hist ++ more)).getD k h0) v ((h0 :: (hist ++ more)).getD k h0)) :
    Shown P (x :: is) (m :: ms) s h0 hist obl Q (v :: vs) more := by
  have hcnt : hist.length + more.length = hist1.length + more1.length := by
    have := congrArg List.length hh
    simpa using this.symm
  refine ⟨by simp [hs.len], fun o h => by rw [← hh]; exact hs.obl o (ho o h), ?_, ?_, fun i hi y hy => ?_⟩
  · rw [List.length_cons, hcN_cons, ← hs.cnt]
    omega
  · rw [List.length_cons, slN_cons, ← hh]
    exact hs.fin
  · cases i with
    | zero =>
      simp only [List.getElem?_cons_zero, Option.some.injEq] at hy
      subst hy
      have e1 : isHv (m :: ms) 0 = m.hv := rfl
      have e2 : loN (m :: ms) 0 = m.lo := rfl
      have e3 : hiN (m :: ms) 0 = m.hi := rfl
      rw [e1, e2, e3]
      by_cases hv : m.hv = true
      · rw [if_pos hv] at hx ⊢
        exact hx
      · rw [if_neg hv] at hx ⊢
        intro k h1 h2 h3
        refine hx k h1 h2 ?_
        rw [List.length_cons, hcN_cons, if_neg hv] at h3
        omega
    | succ i =>
      have hi' : i < is.length := by simpa using hi
      have := hs.spec i hi' y (by simpa using hy)
      have e1 : isHv (m :: ms) (i + 1) = isHv ms i := by simp [isHv]
      have e2 : loN (m :: ms) (i + 1) = loN ms i := by simp [loN]
      have e3 : hiN (m :: ms) (i + 1) = hiN ms i := by simp [hiN]
      have e4 : ((v :: vs).getD (i + 1) AV.undef) = vs.getD i .undef := by simp
      rw [e1, e2, e3, e4, slN_cons, hcN_cons, List.length_cons, hcN_cons]
      rw [hh] at this
      rw [show hist.length + ((if m.hv then 1 else 0) + hcN ms i) = hist1.length + hcN ms i by omega, show hist.length + ((if m.hv then 1 else 0) + hcN ms is.length) = hist1.length + hcN ms is.length by omega]
      exact this

theorem getD_mem_obl {o : Obl} {l : List H} {h0 : H} (ho : o.ok l) {k : Nat} (h1 : o.lo ≤ k) (h2 : k ≤ o.hi) (h3 : k < l.length) : o.p (l.getD k h0) := by
  refine ho _ ?_
  rw [List.mem_iff_getElem?]
  refine ⟨k - o.lo, ?_⟩
  rw [List.getElem?_take, if_pos (by omega), List.getElem?_drop, show o.lo + (k - o.lo) = k by omega, List.getD_eq_getElem?_getD, List.getElem?_eq_getElem h3]
  rfl

theorem RD_shown : ∀ {is : List Ins} {ms : List Mark} {s : Slots} {h0 : H} {hist : List H} {obl : List Obl} {Q : Slots → H → Prop}, RD P is ms s h0 hist obl Q → ∃ vs more, Shown P is ms s h0 hist obl Q vs more
  | [], ms, s, h0, hist, obl, Q, hr => ⟨[], [], ⟨rfl, by simpa using hr.1, by simp [hcN], by simpa [txt, slN] using hr.2, fun i hi => by simp at hi⟩⟩
  | x :: is, ⟨true, lo, hi⟩ :: ms, s, h0, hist, obl, Q, hr => by
    simp only [RD] at hr
    have fin : ∀ {v : AV} {h1 : H}, StepR P x s (lastH h0 hist) v h1 → RD P is ms (put s x.dst v) h0 (hist ++ [h1]) obl Q → ∃ vs more, Shown P (x :: is) (⟨true, lo, hi⟩ :: ms) s h0 hist obl Q vs more := fun {v h1} hst hr => by
      obtain ⟨vs, more, hsh⟩ := RD_shown hr
      refine ⟨v :: vs, h1 :: more, hsh.cons (by simp) (by simp) (fun o h => h) ?_⟩
      rw [if_pos rfl, getD_last]
      have : (h0 :: (hist ++ h1 :: more)).getD (hist.length + 1) h0 = h1 := by simp
      rw [this]
      exact hst
    rcases gd_sound hr with ⟨t, b, q1, q2, q3⟩ | ⟨q1, q2⟩
    · exact fin (.inl ⟨t, b, q1, q2, rfl, rfl⟩) q3
    · obtain ⟨v, h1, p1, p2⟩ := wpI_sound q2
      exact fin (.inr ⟨q1, p1⟩) p2
  | x :: is, ⟨false, lo, hi⟩ :: ms, s, h0, hist, obl, Q, hr => by
    simp only [RD] at hr
    have fin : ∀ {v : AV}, (∀ h, StepR P x s h v h) → RD P is ms (put s x.dst v) h0 hist obl Q → ∃ vs more, Shown P (x :: is) (⟨false, lo, hi⟩ :: ms) s h0 hist obl Q vs more := fun {v} hst hr => by
      obtain ⟨vs, more, hsh⟩ := RD_shown hr
      exact ⟨v :: vs, more, hsh.cons rfl (by simp) (fun o h => h) (by rw [if_neg (by simp)]; exact fun k _ _ _ => hst _)⟩
    have fino : ∀ {v : AV} {op : IOp}, (∀ t b, x.g = some (t, b) → s t = .bool b) → x.op = op → RD P is ms (put s x.dst v) h0 hist (⟨lo, hi, fun h => pv op (ev s) h = some v⟩ :: obl) Q → ∃ vs more, Shown P (x :: is) (⟨false, lo, hi⟩ :: ms) s h0 hist obl Q vs more := fun {v op} hg hop hr => by
      obtain ⟨vs, more, hsh⟩ := RD_shown hr
      refine ⟨v :: vs, more, hsh.cons rfl (by simp) (fun o h => List.mem_cons_of_mem _ h) ?_⟩
      rw [if_neg (by simp)]
      intro k h1 h2 h3
      have hok := hsh.obl _ (List.mem_cons_self ..)
      have := getD_mem_obl (h0 := h0) hok (k := k) h1 h2 (by
        have := hsh.cnt
        simp only [List.length_cons, List.length_append]
        omega)
      exact .inr ⟨hg, by rw [hop]; exact .pure _ v this⟩
    rcases gd_sound hr with ⟨t, b, q1, q2, q3⟩ | ⟨q1, q2⟩
    · exact fin (fun h => .inl ⟨t, b, q1, q2, rfl, rfl⟩) q3
    · have hob : ∀ {o : Option AV} {K : AV → Prop}, ob o K → ∃ v, o = some v ∧ K v := fun {o K} h => by
        cases o with
        | none => exact h.elim
        | some v => exact ⟨v, rfl, h⟩
      have hfree : x.op.free = true → ob (pv x.op (ev s) h0) (fun v => RD P is ms (put s x.dst v) h0 hist obl Q) → ∃ vs more, Shown P (x :: is) (⟨false, lo, hi⟩ :: ms) s h0 hist obl Q vs more := fun hf h => by
        obtain ⟨v, hv, hk⟩ := hob h
        exact fin (fun h => .inr ⟨q1, .pure _ v (by rw [pv_free hf (ev s) h h0]; exact hv)⟩) hk
      cases hop : x.op with
      | load n ag y =>
        rw [hop] at q2
        obtain ⟨v, hv, hk⟩ := hob q2
        exact fino q1 hop hk
      | lookup z m k ok =>
        rw [hop] at q2
        obtain ⟨v, hv, hk⟩ := hob q2
        exact fino q1 hop hk
      | call f args =>
        rw [hop] at q2
        obtain ⟨v, hv, hk⟩ := q2
        refine fin (fun h => .inr ⟨q1, ?_⟩) hk
        rw [hop]
        have := hv h
        simp only [CallR] at this
        split at this
        · rename_i F first caps hf
          exact .callF f args F first caps v h hf this
        · rename_i l hl
          exact .callY f args l v h hl this
        · exact this.elim
      | append sz b y z =>
        rw [hop] at q2
        obtain ⟨v, hv, hk⟩ := q2
        exact fin (fun h => .inr ⟨q1, by rw [hop]; exact .append sz b y z v h (hv h)⟩) hk
      | mksl sz b z l c =>
        rw [hop] at q2
        obtain ⟨v, hv, hk⟩ := q2
        exact fin (fun h => .inr ⟨q1, by rw [hop]; exact hv h⟩) hk
      | alloc z => rw [hop] at q2; exact q2.elim
      | box y => rw [hop] at q2; exact q2.elim
      | store n a y => rw [hop] at q2; exact q2.elim
      | _ => rw [hop] at q2; exact hfree (by rw [hop]; rfl) (by rw [hop]; exact q2)
  | _ :: _, [], _, _, _, _, _, hr => hr.elim

theorem draw_run {is : List Ins} {aft : List (List Nat)} {ms : List Mark} (hf : drawFine is aft ms = true) {s : Slots} {h : H} {Q : Slots → H → Prop} (hr : RD P is ms s h [] [] Q) :
    ∃ s1 h1, (∀ t, Topo aft is.length t → ∀ xs, pick is t = some xs → OpsR P xs s h s1 h1) ∧ Q s1 h1 := by
  obtain ⟨vs, more, hsh⟩ := RD_shown hr
  have hF := drawFine_is hf
  have key := fun hsp t ht xs hx => draw_sound (P := P) hf (v := fun i => vs.getD i .undef) (hs := fun k => (h :: more).getD k h) (s := s) hsp t ht xs hx
  refine ⟨_, _, fun t ht xs hx => key (fun i hi x hx => ?_) t ht xs hx, ?_⟩
  · have := hsh.spec i hi x hx
    simp only [List.nil_append, List.length_nil, Nat.zero_add] at this
    by_cases hv : isHv ms i = true
    · rw [if_pos hv] at this ⊢; exact this
    · rw [if_neg hv] at this ⊢
      exact this
  · have := hsh.fin
    simp only [List.nil_append] at this
    have e : (h :: more).getD (hcN ms is.length) h = lastH h more := by
      rw [← hsh.cnt]
      have := getD_last h more [] h
      simpa using this
    show Q _ ((h :: more).getD (hcN ms is.length) h)
    rw [e]
    exact this

end
end Go.Am
