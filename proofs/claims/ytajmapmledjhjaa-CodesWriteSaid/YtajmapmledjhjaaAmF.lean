/- The operations on plain values: arithmetic, comparisons, equality of structs. -/
import Derived.Test.YtajmapmledjhjaaAmE
import Derived.Laws.StructEq
namespace Go.Am
open Go Go.RowKit
section
variable {P : Program} {w : World} {g : G}

theorem bytes_beq (a b : ByteArray) : (a.toList == b.toList) = decide (a = b) := by
  rw [ByteArray.toList_eq, ByteArray.toList_eq, Bool.eq_iff_iff]
  simp only [beq_iff_eq, decide_eq_true_eq]
  constructor
  · intro h
    obtain ⟨⟨x⟩⟩ := a
    obtain ⟨⟨y⟩⟩ := b
    simpa using h
  · rintro rfl; rfl

theorem run_intBin {op : BinOp} {k : IntKind} {a b : Int} {v : AV} (hv : intBin op k a b = some v) (t : TypeId) (w : World) (g : G) :
    ∃ V, (binOp op t (.int k a) (.int k b)).run P w = .ok V w ∧ Rep w g v V := by
  cases op <;> simp only [intBin, reduceCtorEq, Option.some.injEq] at hv
  case add => subst hv; exact ⟨_, by simp [binOp, Op.intArith], .int _ _⟩
  case sub => subst hv; exact ⟨_, by simp [binOp, Op.intArith], .int _ _⟩
  case mul => subst hv; exact ⟨_, by simp [binOp, Op.intArith], .int _ _⟩
  case quo =>
    split at hv
    · cases hv
    · rename_i hb; cases hv; exact ⟨_, by simp [binOp, Op.intDiv, hb], .int _ _⟩
  case rem =>
    split at hv
    · cases hv
    · rename_i hb; cases hv; exact ⟨_, by simp [binOp, Op.intDiv, hb], .int _ _⟩
  case and => subst hv; exact ⟨_, by simp [binOp, Op.intBits], .int _ _⟩
  case or => subst hv; exact ⟨_, by simp [binOp, Op.intBits], .int _ _⟩
  case xor => subst hv; exact ⟨_, by simp [binOp, Op.intBits], .int _ _⟩
  case andNot => subst hv; exact ⟨_, by simp [binOp, Op.intBits], .int _ _⟩
  case eql => subst hv; exact ⟨.bool (a == b), by simp [binOp, Op.intCmp], by rw [show (a == b) = decide (a = b) from rfl]; exact .bool _⟩
  case neq => subst hv; exact ⟨.bool (a != b), by simp [binOp, Op.intCmp], by rw [show (a != b) = !decide (a = b) from rfl]; exact .bool _⟩
  case lss => subst hv; exact ⟨_, by simp [binOp, Op.intCmp], .bool _⟩
  case leq => subst hv; exact ⟨_, by simp [binOp, Op.intCmp], .bool _⟩
  case gtr => subst hv; exact ⟨_, by simp [binOp, Op.intCmp], .bool _⟩
  case geq => subst hv; exact ⟨_, by simp [binOp, Op.intCmp], .bool _⟩

theorem run_binA {op : BinOp} {x y v : AV} {X Y : Value} (hv : binA op x y = some v) (hx : Rep w g x X) (hy : Rep w g y Y) (t : TypeId) (p q : Operand) :
    ∃ V, (do eqGuard op t p q X Y; binOp op t X Y : Sem Value).run P w = .ok V w ∧ Rep w g v V := by
  have hg : ∀ {k k' : IntKind} {a b : Int}, (eqGuard op t p q (.int k a) (.int k' b)).run P w = .ok () w := fun {k k' a b} => by
    cases op <;> simp [eqGuard]
  have hgs : ∀ {a b : ByteArray}, (eqGuard op t p q (.string a) (.string b)).run P w = .ok () w := fun {a b} => by
    cases op <;> simp [eqGuard]
  unfold binA at hv
  split at hv
  · rename_i k a k' b
    split at hv
    · cases hv
    · rename_i hb
      cases hv
      obtain rfl := hx.int_inv
      obtain rfl := hy.int_inv
      exact ⟨_, by simp [hg, binOp, Op.shift, hb, shAmt], .int _ _⟩
  · rename_i k a k' b
    split at hv
    · cases hv
    · rename_i hb
      cases hv
      obtain rfl := hx.int_inv
      obtain rfl := hy.int_inv
      exact ⟨_, by simp [hg, binOp, Op.shift, hb, shAmt], .int _ _⟩
  · rename_i k a k' b _ _
    split at hv
    · rename_i hk
      subst hk
      obtain rfl := hx.int_inv
      obtain rfl := hy.int_inv
      obtain ⟨V, h1, h2⟩ := run_intBin (P := P) hv t w g
      exact ⟨V, by simp [hg, h1], h2⟩
    · cases hv
  · cases hv
    obtain rfl := hx.str_inv
    obtain rfl := hy.str_inv
    exact ⟨_, by simp only [Sem.run_bind, hgs, Result.andThen_ok, binOp_string_eql, bytes_beq]; rfl, .bool _⟩
  · cases hv
    obtain rfl := hx.str_inv
    obtain rfl := hy.str_inv
    exact ⟨_, by simp only [Sem.run_bind, hgs, Result.andThen_ok, binOp_string_neq, bytes_beq]; rfl, .bool _⟩
  · rename_i a b
    split at hv
    · rename_i hsz
      cases hv
      obtain rfl := hx.str_inv
      obtain rfl := hy.str_inv
      refine ⟨_, ?_, .str _⟩
      have : ¬ ((a.size + b.size : Nat) : Int) > IntKind.i64.max := by
        have : IntKind.i64.max = 9223372036854775807 := by decide
        rw [this]; omega
      simp only [Sem.run_bind, hgs, Result.andThen_ok, binOp_string_add, Op.stringOp, if_neg this]
      rfl
    · cases hv
  · cases hv

theorem run_unA {op : UnOp} {x v : AV} {X : Value} (hv : unA op x = some v) (hx : Rep w g x X) : ∃ V, (Op.unary op X).run P w = .ok V w ∧ Rep w g v V := by
  unfold unA at hv
  split at hv
  · cases hv
    obtain rfl := hx.int_inv
    exact ⟨_, by simp [Op.unary, Op.intArith], .int _ _⟩
  · cases hv
    obtain rfl := hx.bool_inv
    exact ⟨_, by simp [Op.unary], .bool _⟩
  · cases hv

/-! ### Equality of what has plain cells -/
theorem cellsEq_len : ∀ {ks : List LK} {xs ys : List AV} {b : Bool}, cellsEq ks xs ys = some b → xs.length = ks.length ∧ ys.length = ks.length
  | [], [], [], _, _ => ⟨rfl, rfl⟩
  | k :: ks, x :: xs, y :: ys, b, h => by
    simp only [cellsEq, Option.bind_eq_some_iff, Option.map_eq_some_iff] at h
    obtain ⟨c, _, d, hd, _⟩ := h
    have := cellsEq_len hd
    simp [this.1, this.2]
  | [], [], _ :: _, _, h => by simp [cellsEq] at h
  | [], _ :: _, [], _, h => by simp [cellsEq] at h
  | [], _ :: _, _ :: _, _, h => by simp [cellsEq] at h
  | _ :: _, [], _, _, h => by simp [cellsEq] at h
  | _ :: _, _ :: _, [], _, h => by simp [cellsEq] at h

theorem cellsEq_app : ∀ {ks ks' : List LK} {xs ys : List AV} {b : Bool}, cellsEq (ks ++ ks') xs ys = some b →
    ∃ b1 b2, cellsEq ks (xs.take ks.length) (ys.take ks.length) = some b1 ∧ cellsEq ks' (xs.drop ks.length) (ys.drop ks.length) = some b2 ∧ b = (b1 && b2)
  | [], ks', xs, ys, b, h => ⟨true, b, by simp [cellsEq], by simpa using h, by simp⟩
  | k :: ks, ks', [], ys, b, h => by simp [cellsEq] at h
  | k :: ks, ks', x :: xs, [], b, h => by simp [cellsEq] at h
  | k :: ks, ks', x :: xs, y :: ys, b, h => by
    simp only [List.cons_append, cellsEq, Option.bind_eq_some_iff, Option.map_eq_some_iff] at h
    obtain ⟨c, hc, d, hd, rfl⟩ := h
    obtain ⟨b1, b2, h1, h2, rfl⟩ := cellsEq_app hd
    exact ⟨c && b1, b2, by simp [cellsEq, hc, h1], by simpa using h2, by rw [Bool.and_assoc]⟩

theorem flat_agg {d : Nat} {t : TypeId} {ks : List LK} (h : flat P d t = some ks) : ∃ ag, aggT P t = some ag ∧ (ag = true ∨ ∃ k u, P.underlying t = some u ∧ plainD u = some k ∧ ks = [k]) := by
  cases d with
  | zero => simp [flat] at h
  | succ d =>
    simp only [flat] at h
    split at h
    · rename_i fs hu; exact ⟨true, by simp [aggT, hu, isAggD], .inl rfl⟩
    · rename_i m e hu; exact ⟨true, by simp [aggT, hu, isAggD], .inl rfl⟩
    · rename_i u h1 h2 hu
      simp only [Option.map_eq_some_iff] at h
      obtain ⟨k, hk, rfl⟩ := h
      refine ⟨false, ?_, .inr ⟨k, u, hu, hk, rfl⟩⟩
      rw [aggT, hu]
      cases u <;> first | rfl | simp [plainD] at hk
    · cases h

theorem run_eq_part {d : Nat} {t : TypeId} {ks : List LK} (hf : flat P d t = some ks) (hsz : szT P t = some ks.length) {ag : Bool} (hag : aggT P t = some ag) {xs ys : List AV} {X Y : Array Value} {off : Nat}
    (hX : RepC w g xs X) (hY : RepC w g ys Y) (hoff : off + ks.length ≤ xs.length) (hoff' : off + ks.length ≤ ys.length) {b : Bool} (hb : cellsEq ks ((xs.drop off).take ks.length) ((ys.drop off).take ks.length) = some b) :
    ∃ v1 V1 v2 V2, (part t X off).run P w = .ok V1 w ∧ (part t Y off).run P w = .ok V2 w ∧ Rep w g v1 V1 ∧ Rep w g v2 V2 ∧ eqA ks ag v1 v2 = some b := by
  obtain ⟨ag', hag', hor⟩ := flat_agg hf
  have : ag = ag' := by rw [hag] at hag'; exact Option.some.inj hag'
  subst this
  obtain ⟨hl1, hl2⟩ := cellsEq_len hb
  cases ag with
  | true =>
    obtain ⟨V1, p1, r1⟩ := run_partA (P := P) hsz hag hX hoff (v := .agg ((xs.drop off).take ks.length)) rfl
    obtain ⟨V2, p2, r2⟩ := run_partA (P := P) hsz hag hY hoff' (v := .agg ((ys.drop off).take ks.length)) rfl
    exact ⟨_, V1, _, V2, p1, p2, r1, r2, by simp only [eqA, if_true, hb]⟩
  | false =>
    rcases hor with h | ⟨k, u, hu, hk, rfl⟩
    · cases h
    · generalize hxs : (xs.drop off).take [k].length = l1 at hl1 hb
      generalize hys : (ys.drop off).take [k].length = l2 at hl2 hb
      match l1, l2, hl1, hl2 with
      | [a], [c], _, _ =>
        obtain ⟨V1, p1, r1⟩ := run_partA (P := P) hsz hag hX hoff (v := a) (by rw [hxs]; rfl)
        obtain ⟨V2, p2, r2⟩ := run_partA (P := P) hsz hag hY hoff' (v := c) (by rw [hys]; rfl)
        refine ⟨_, V1, _, V2, p1, p2, r1, r2, ?_⟩
        simp only [cellsEq, Option.map_some, Option.bind_eq_some_iff, Bool.and_true] at hb
        obtain ⟨q, hq, hq'⟩ := hb
        cases hq'
        simpa [eqA] using hq

abbrev EqIH (P : Program) (w : World) (g : G) (D d : Nat) : Prop := ∀ (t : TypeId) (ks : List LK) (ag : Bool), flat P d t = some ks → aggT P t = some ag → ∀ {x y : AV} {X Y : Value} {b : Bool}, Rep w g x X → Rep w g y Y → eqA ks ag x y = some b → (Op.equalIn D t X Y).run P w = .ok b w

theorem run_eqFields {D d : Nat} (IH : EqIH P w g D d) {xs ys : List AV} {X Y : Array Value} (hX : RepC w g xs X) (hY : RepC w g ys Y) :
    ∀ (fs : List Field) (off : Nat) (ks : List LK) (b : Bool), flatF P (flat P d) fs off = some ks → cellsEq ks (xs.drop off) (ys.drop off) = some b → off ≤ xs.length → off ≤ ys.length → (Op.eqFields D X Y fs).run P w = .ok b w
  | [], off, ks, b, hf, hb, _, _ => by
    simp only [flatF, Option.some.injEq] at hf
    subst hf
    obtain ⟨h1, h2⟩ := cellsEq_len hb
    have e1 : xs.drop off = [] := List.eq_nil_of_length_eq_zero h1
    have e2 : ys.drop off = [] := List.eq_nil_of_length_eq_zero h2
    simp [e1, e2, cellsEq] at hb
    subst hb
    simp [Op.eqFields]
  | f :: fs, off, ks, b, hf, hb, ho1, ho2 => by
    simp only [flatF] at hf
    split at hf
    · rename_i hfn
      obtain ⟨hname, hfo⟩ := hfn
      simp only [Option.bind_eq_some_iff] at hf
      obtain ⟨c, hc, hf⟩ := hf
      split at hf
      · rename_i hsz
        simp only [Option.map_eq_some_iff] at hf
        obtain ⟨r, hf, rfl⟩ := hf
        obtain ⟨hl1, hl2⟩ := cellsEq_len hb
        simp only [List.length_drop, List.length_append] at hl1 hl2
        obtain ⟨ag, hag, _⟩ := flat_agg hc
        obtain ⟨b1, b2, e1, e2, rfl⟩ := cellsEq_app hb
        obtain ⟨v1, V1, v2, V2, p1, p2, r1, r2, he⟩ := run_eq_part hc hsz hag hX hY (off := off) (by omega) (by omega) e1
        have h1 := IH f.type c ag hc hag r1 r2 he
        rw [← hfo] at p1 p2
        simp only [List.drop_drop] at e2
        have h2 := run_eqFields IH hX hY fs (off + c.length) r b2 hf e2 (by omega) (by omega)
        simp only [Op.eqFields, if_pos hname, Sem.run_bind, p1, p2, h1, Result.andThen_ok]
        cases b1
        · simp
        · simpa using h2
      · cases hf
    · cases hf

theorem run_eqItemsA {D d : Nat} (IH : EqIH P w g D d) {e : TypeId} {c : List LK} (hc : flat P d e = some c) (hsz : szT P e = some c.length) {xs ys : List AV} {X Y : Array Value} (hX : RepC w g xs X) (hY : RepC w g ys Y) :
    ∀ (m i : Nat) (b : Bool), cellsEq (rep m c) (xs.drop (i * c.length)) (ys.drop (i * c.length)) = some b → i * c.length ≤ xs.length → i * c.length ≤ ys.length → (Op.eqItems D e c.length X Y (List.range' i m)).run P w = .ok b w
  | 0, i, b, hb, _, _ => by
    obtain ⟨h1, h2⟩ := cellsEq_len hb
    have e1 : xs.drop (i * c.length) = [] := List.eq_nil_of_length_eq_zero h1
    have e2 : ys.drop (i * c.length) = [] := List.eq_nil_of_length_eq_zero h2
    simp [e1, e2, rep, cellsEq] at hb
    subst hb
    simp [Op.eqItems]
  | m + 1, i, b, hb, ho1, ho2 => by
    obtain ⟨hl1, hl2⟩ := cellsEq_len hb
    simp only [rep, List.length_drop, List.length_append] at hl1 hl2
    obtain ⟨ag, hag, _⟩ := flat_agg hc
    obtain ⟨b1, b2, e1, e2, rfl⟩ := cellsEq_app hb
    obtain ⟨v1, V1, v2, V2, p1, p2, r1, r2, he⟩ := run_eq_part hc hsz hag hX hY (off := i * c.length) (by omega) (by omega) e1
    have h1 := IH e c ag hc hag r1 r2 he
    simp only [List.drop_drop] at e2
    have hi : i * c.length + c.length = (i + 1) * c.length := by rw [Nat.add_mul]; omega
    rw [hi] at e2
    have h2 := run_eqItemsA IH hc hsz hX hY m (i + 1) b2 e2 (by omega) (by omega)
    simp only [List.range'_succ, Op.eqItems, Sem.run_bind, p1, p2, h1, Result.andThen_ok]
    cases b1
    · simp
    · simpa using h2

theorem cellEq_run {D : Nat} {t : TypeId} {u : TypeDesc} {k : LK} (hu : P.underlying t = some u) (hp : plainD u = some k) {x y : AV} {X Y : Value} {b : Bool} (hx : Rep w g x X) (hy : Rep w g y Y) (h : cellEq k x y = some b) :
    (Op.equalIn (D + 1) t X Y).run P w = .ok b w := by
  unfold cellEq at h
  split at h
  · rename_i q a q' c
    split at h
    · rename_i hkk
      subst hkk
      cases h
      obtain rfl := hx.int_inv
      obtain rfl := hy.int_inv
      obtain ⟨k', rfl⟩ : ∃ k', u = .int k' := by cases u <;> simp [plainD] at hp; exact ⟨_, rfl⟩
      rw [run_equalIn_int w D t q k' a c hu]; rfl
    · cases h
  · rename_i a c
    cases h
    obtain rfl := hx.bool_inv
    obtain rfl := hy.bool_inv
    obtain rfl : u = .bool := by cases u <;> simp [plainD] at hp; rfl
    rw [run_equalIn_bool' w D t a c hu]; rfl
  · rename_i a c
    cases h
    obtain rfl := hx.str_inv
    obtain rfl := hy.str_inv
    obtain rfl : u = .string := by cases u <;> simp [plainD] at hp; rfl
    rw [run_equalIn_string w D t a c hu, bytes_beq]
  · cases h

theorem run_flatEq : ∀ (d j : Nat), EqIH P w g (d + j) d
  | 0, _, _, _, _, h, _, _, _, _, _, _, _, _, _ => by simp [flat] at h
  | d + 1, j, t, ks, ag, h, hag, x, y, X, Y, b, hx, hy, hb => by
    have IH := run_flatEq d j
    have hd : d + 1 + j = (d + j) + 1 := by omega
    rw [hd]
    simp only [flat] at h
    split at h
    · rename_i fs hu
      split at h
      · cases h
      · rename_i hst
        have hst' : P.stoodInHeld t = false := by simpa using hst
        have hu' : P.underlying t = some (.struct (P.fieldsOf t)) := by simp [Program.fieldsOf, hu]
        have hfo : P.fieldsOf t = fs := by simp [Program.fieldsOf, hu]
        have : ag = true := by simpa [aggT, hu, isAggD] using hag.symm
        subst this
        simp only [eqA, if_true] at hb
        split at hb
        · rename_i xs ys
          obtain ⟨C, rfl, hC⟩ := hx.agg_inv
          obtain ⟨C', rfl, hC'⟩ := hy.agg_inv
          rw [run_equalIn_struct w (d + j) t C C' hu' hst', hfo]
          exact run_eqFields IH hC hC' fs.toList 0 ks b h (by simpa using hb) (Nat.zero_le _) (Nat.zero_le _)
        · cases hb
    · rename_i m e hu
      simp only [Option.bind_eq_some_iff] at h
      obtain ⟨c, hc, h⟩ := h
      split at h
      · rename_i hsz
        cases h
        have : ag = true := by simpa [aggT, hu, isAggD] using hag.symm
        subst this
        simp only [eqA, if_true] at hb
        split at hb
        · rename_i xs ys
          obtain ⟨C, rfl, hC⟩ := hx.agg_inv
          obtain ⟨C', rfl, hC'⟩ := hy.agg_inv
          obtain ⟨i, hi, hic⟩ := Option.map_eq_some_iff.1 hsz
          have hcell : P.cellsOf e = c.length := by simp [Program.cellsOf, hi, hic]
          rw [run_equalIn_array w (d + j) C C' hu hi, hcell, List.range_eq_range']
          exact run_eqItemsA IH hc hsz hC hC' m 0 b (by simpa using hb) (by simp) (by simp)
        · cases hb
      · cases h
    · rename_i u h1 h2 hu
      simp only [Option.map_eq_some_iff] at h
      obtain ⟨k, hk, rfl⟩ := h
      have : ag = false := by
        rw [aggT, hu] at hag
        cases u <;> first | (simpa [isAggD] using hag.symm) | simp [plainD] at hk
      subst this
      simp only [eqA, Bool.false_eq_true, if_false] at hb
      exact cellEq_run hu hk hx hy hb
    · cases h

/-- '==' and '!='. -/
theorem run_eqA {t : TypeId} {ks : List LK} {ag neg : Bool} (hf : flat P 60 t = some ks) (hag : aggT P t = some ag) (hgd : P.eqGuardType P.depth t = false) {x y : AV} {X Y : Value} {b : Bool} (hx : Rep w g x X) (hy : Rep w g y Y)
    (hb : eqA ks ag x y = some b) (hnb : ∀ u, P.underlying t = some u → (∃ fs, u = .struct fs) ∨ (∃ n e, u = .array n e) ∨ u = .bool) (p q : Operand) :
    ∃ V, (do eqGuard (if neg then .neq else .eql) t p q X Y; binOp (if neg then .neq else .eql) t X Y : Sem Value).run P w = .ok V w ∧ Rep w g (.bool (if neg then !b else b)) V := by
  have hE := run_flatEq (P := P) (w := w) (g := g) 60 9940 t ks ag hf hag hx hy hb
  refine ⟨.bool (if neg then !b else b), ?_, .bool _⟩
  cases ag with
  | true =>
    simp only [eqA, if_true] at hb
    split at hb
    · rename_i xs ys
      obtain ⟨C, rfl, hC⟩ := hx.agg_inv
      obtain ⟨C', rfl, hC'⟩ := hy.agg_inv
      cases neg
      · simp only [Bool.false_eq_true, if_false, Sem.run_bind, run_eqGuard_agg w .eql t p q C C' hgd, Result.andThen_ok, run_eql_struct, hE]
      · simp only [if_true, Sem.run_bind, run_eqGuard_agg w .neq t p q C C' hgd, Result.andThen_ok, run_neq_struct, hE]
    · cases hb
  | false =>
    obtain ⟨ag', hag', hor⟩ := flat_agg hf
    rw [hag] at hag'
    cases hag'
    rcases hor with h | ⟨k, u, hu, hk, rfl⟩
    · cases h
    · have hub : u = .bool := by
        rcases hnb u hu with ⟨fs, rfl⟩ | ⟨n, e, rfl⟩ | rfl
        · simp [plainD] at hk
        · simp [plainD] at hk
        · rfl
      subst hub
      simp only [plainD, Option.some.injEq] at hk
      subst hk
      simp only [eqA, Bool.false_eq_true, if_false] at hb
      unfold cellEq at hb
      split at hb
      · rename_i h; cases h
      · rename_i a c _
        obtain rfl := hx.bool_inv
        obtain rfl := hy.bool_inv
        have hE' : (Op.equal t (.bool a) (.bool c)).run P w = .ok b w := hE
        cases neg <;> simp [eqGuard, binOp, hE']
      · rename_i h; cases h
      · cases hb

/-- '== nil' and '!= nil' on a slice. -/
theorem run_isnil {t e : TypeId} {neg : Bool} (hu : P.underlying t = some (.slice e)) {X : Value} {v : AV} {h : H} {s : Opd → AV} {o : Opd} (hx : Rep w g (s o) X) (hv : pv (.isnil neg o) s h = some v) (p q : Operand) :
    ∃ V, (do eqGuard (if neg then .neq else .eql) t p q X (.slice none 0 0); binOp (if neg then .neq else .eql) t X (.slice none 0 0) : Sem Value).run P w = .ok V w ∧ Rep w g v V := by
  have hE : ∀ (A : Option Addr) (n c : Nat), (Op.equal t (.slice A n c) (.slice none 0 0)).run P w = .ok A.isNone w := fun A n c => by
    show (Op.equalIn (9999 + 1) t (.slice A n c) (.slice none 0 0)).run P w = _
    unfold Op.equalIn
    cases A <;> simp [run_underlying hu]
  have hg : ∀ (op : BinOp) (A : Option Addr) (n c : Nat), (eqGuard op t p q (.slice A n c) (.slice none 0 0)).run P w = .ok () w := fun op A n c => by
    cases op <;> simp [eqGuard]
  have hrun : ∀ (A : Option Addr) (n c : Nat), (do eqGuard (if neg then .neq else .eql) t p q (.slice A n c) (.slice none 0 0); binOp (if neg then .neq else .eql) t (.slice A n c) (.slice none 0 0) : Sem Value).run P w = .ok (.bool (if neg then !A.isNone else A.isNone)) w := fun A n c => by
    cases neg
    · simp only [Bool.false_eq_true, if_false, Sem.run_bind, hg, Result.andThen_ok]
      simp [binOp, hE]
    · simp only [if_true, Sem.run_bind, hg, Result.andThen_ok]
      simp [binOp, hE]
  simp only [pv] at hv
  split at hv
  · rename_i tk hso
    cases hv
    rw [hso] at hx
    cases hx with
    | sl t es A cap z Vs h1 h2 h3 h4 h5 h6 => exact ⟨_, hrun A _ cap, .ubool _⟩
  · rename_i tk e0 es0 hso
    cases hv
    rw [hso] at hx
    cases hx with
    | sl t es A cap z Vs h1 h2 h3 h4 h5 h6 =>
      refine ⟨_, hrun A _ cap, ?_⟩
      have h0 : 0 < (e0 :: es0).flatten.length := by
        have := h1.2 e0 (List.mem_cons_self ..)
        simp only [List.flatten_cons, List.length_append]; omega
      obtain ⟨B, oo, hA, _⟩ := h3 0 h0
      subst hA
      cases neg <;> exact .bool _
  · cases hv

end
end Go.Am
