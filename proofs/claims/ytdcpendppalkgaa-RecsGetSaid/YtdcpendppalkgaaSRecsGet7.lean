/- What the functions that the statement reaches do: their contracts; and what follows of it. -/
import Derived.Test.YtdcpendppalkgaaSRecsGet6
/- The document's reader of codes: gimmalref01.Read. -/
namespace Go.Proofs
open Go Go.RowKit Go.Am

/-- A value that says less. -/
def Wkr (r r' : AV) : Prop := ∀ (w : World) (g : G) (V : Value), Rep w g r V → Rep w g r' V
theorem Wkr.refl (r : AV) : Wkr r r := fun _ _ _ h => h
theorem Wkr.wk {r r' : AV} (h : wk r = r') : Wkr r r' := fun _ _ _ h' => h ▸ h'.wk
theorem Wkr.tup {l l' : List AV} (hl : l.length = l'.length) (h : ∀ (k : Nat) (v v' : AV), l[k]? = some v → l'[k]? = some v' → Wkr v v') : Wkr (.tup l) (.tup l') := fun w g V hr => by
  cases hr with
  | tup cs C hC q =>
    refine .tup l' C (hl ▸ hC) fun k hk => ?_
    exact h k _ _ (List.getElem?_eq_getElem (by omega)) (List.getElem?_eq_getElem hk) w g _ (q k (by omega))
theorem Wkr.agg {l l' : List AV} (h : WkL l l') : Wkr (.agg l) (.agg l') := fun w g V hr => by
  cases hr with
  | agg cs C hC q q2 =>
    refine .agg l' C (h.len ▸ hC) (fun k hk => ?_) fun k hk => ?_
    · obtain ⟨v1, e1, e2⟩ := h.get k _ (List.getElem?_eq_getElem hk)
      obtain ⟨hk', rfl⟩ := List.getElem?_eq_some_iff.1 e1
      exact (e2 (q2 k hk')).2 w g _ (q k hk')
    · obtain ⟨v1, e1, e2⟩ := h.get k _ (List.getElem?_eq_getElem hk)
      obtain ⟨hk', rfl⟩ := List.getElem?_eq_some_iff.1 e1
      exact (e2 (q2 k hk')).1
theorem Wkr.one {v : AV} (h : ok1 v = true) : Wkr v .any1 := fun _ _ V hv => .any1 V (ok1_one hv h)
theorem Wkr.tup3 {a b c a' b' c' : AV} (h1 : Wkr a a') (h2 : Wkr b b') (h3 : Wkr c c') : Wkr (.tup [a, b, c]) (.tup [a', b', c']) := Wkr.tup rfl fun k v v' e e' => by
  rcases k with _ | _ | _ | k <;> simp at e e' <;> subst e e' <;> assumption

theorem PCall.runW {f : FuncId} {F : FnA} {args : List AV} {r : AV} (hb : HasBody Try.prog f) (hf : cFn Try.prog f = some F) (hargs : args.length ≤ F.N) (hp : ∀ v ∈ args, PureV v) (hpr : PureV r) (hw : wk r = r)
    (hr : Run Try.prog false [.c F.body] (retQ F.res fun r' _ => Wkr r' r) (slots0 args) H.nil) : PCall Try.prog f args r :=
  PCall.of ((CallP.body hb hf hargs hr).gh fun r' h1 hq => ⟨h1, r, .weak hq (.refl _ _), hw⟩) hp hpr

theorem refBack_ok (w : Nat) (hw : w < 18446744073709551616) : PCall Try.prog 131 [.int .u64 w] (.int .i64 (backI w)) := by
  refine PCall.run hb131 ok131 (by simp) (pures1 (.int _ _)) (.int _ _) ?_
  have e1 : ((w : Int)).tmod 2 = ((w % 2 : Nat) : Int) := by rw [Int.tmod_eq_emod_of_nonneg (by omega)]; omega
  have e2 : ((w : Int)).tdiv 2 = ((w / 2 : Nat) : Int) := by rw [Int.tdiv_eq_ediv_of_nonneg (by omega)]; omega
  have e3 : IntKind.u64.wrap ((w / 2 : Nat) : Int) = ((w / 2 : Nat) : Int) := wrap_u64 (by omega) (by omega)
  have e4 : IntKind.i64.wrap ((w / 2 : Nat) : Int) = ((w / 2 : Nat) : Int) := wrap_i64 (by omega) (by omega)
  unfold backI
  by_cases h : w % 2 = 0
  · simp -implicitDefEqProofs [e1, e2, e3, e4, h, -Int.natCast_ediv, -Int.natCast_emod]
  · have h' : ¬ ((w % 2 : Nat) : Int) = 0 := by omega
    have e5 : IntKind.i64.wrap (-((w / 2 : Nat) : Int)) = -((w / 2 : Nat) : Int) := wrap_i64 (by omega) (by omega)
    have e6 : IntKind.i64.wrap (-((w / 2 : Nat) : Int) - 1) = -((w / 2 : Nat) : Int) - 1 := wrap_i64 (by omega) (by omega)
    simp -implicitDefEqProofs [e1, e2, e3, e4, e5, e6, h, -Int.natCast_ediv, -Int.natCast_emod]

def rdTextW : Rd (ByteArray × List Nat) := (rdCount 64).bind fun n => (rdTake ((n.toNat + 7) / 8)).bind fun ws => fun l => if packed (unpack n.toNat ws) = ws then some ((unpack n.toNat ws, ws), l) else none
theorem rdText_W (l : List Nat) : rdText l = (rdTextW l).map fun x => (x.1.1, x.2) := by
  rw [rdText_bind]
  unfold rdTextW Rd.bind
  cases rdCount 64 l with
  | none => rfl
  | some x =>
    simp only [Option.bind_some]
    cases rdTake ((x.1.toNat + 7) / 8) x.2 with
    | none => rfl
    | some y =>
      simp only [Option.bind_some]
      split <;> rfl

/-- What the document reads of words, as an item. -/
def refRead (kind most : Int) : Rd Item := fun l =>
  if kind = 1 then (rdSigned l).map fun p => (⟨kind, 0, most, p.1, ⟨#[]⟩, []⟩, p.2)
  else if kind = 0 then (rdCount most l).map fun p => (⟨kind, p.1, most, 0, ⟨#[]⟩, []⟩, p.2)
  else if kind = 2 then (rdCount 1 l).map fun p => (⟨kind, p.1, most, 0, ⟨#[]⟩, []⟩, p.2)
  else if kind = 3 then (rdTextW l).map fun p => (⟨kind, 0, most, 0, p.1.1, p.1.2⟩, p.2)
  else (rdWords most l).map fun p => (⟨kind, 0, most, 0, ⟨#[]⟩, p.1⟩, p.2)

def encRead : Option (Item × List Nat) → AV
  | some (x, l) => .tup [.agg (encItm x), encW l, .bool true]
  | none => .tup [.agg [.any1, .any1, .any1, .any1, .any1, .any1], .any1, .bool false]

theorem pure_encRead (o : Option (Item × List Nat)) : PureV (encRead o) := by
  cases o with
  | none => exact .tup (pures_cons (.agg (pures_cons .any1 (pures_cons .any1 (pures_cons .any1 (pures_cons .any1 (pures_cons .any1 (pures1 .any1))))))) (pures_cons .any1 (pures1 (.bool _))))
  | some x => exact .tup (pures_cons (.agg (pure_encI _)) (pures_cons (pure_w64 _) (pures1 (.bool _))))
theorem wk_encRead (o : Option (Item × List Nat)) : wk (encRead o) = encRead o := by
  cases o <;> simp [encRead]

theorem bad6 {a b c d e f v : AV} (ha : ok1 a = true) (hv : ok1 v = true) : Wkr (.tup [.agg [a, b, c, d, e, f], v, .bool false]) (encRead none) :=
  Wkr.tup3 (Wkr.agg (.cons (.any _) (.cons (.any _) (.cons (.any _) (.cons (.any _) (.cons (.any _) (.cons (.any _) .nil))))))) (Wkr.one hv) (Wkr.refl _)

def readT26 : IR := .seq (.seq (.reg c95_r26) (.cond (.t 83) (.seq (.reg c95_r27) (.seq (.seq (.reg c95_r28) (.blk 0 (.loop c95_l41))) (.reg c95_r42))) (.skip))) (.seq (.dreg c95_r43 c95_a43) (.ret))
def readT23 : IR := .seq (.seq (.reg c95_r23) (.cond (.t 73) (.seq (.reg c95_r24) (.ret)) (.skip))) (.seq (.reg c95_r25) readT26)
def readT14 : IR := .seq (.seq (.reg c95_r14) (.cond (.t 49) (.seq (.reg c95_r15) (.ret)) (.skip))) (.seq (.reg c95_r16) (.seq (.seq (.reg c95_r17) (.cond (.t 59) (.seq (.reg c95_r18) (.seq (.reg c95_r19) (.ret))) (.skip)))
  (.seq (.reg c95_r20) (.seq (.seq (.reg c95_r21) (.cond (.t 66) (.reg c95_r22) (.skip))) readT23))))

abbrev readQ (o : Option (Item × List Nat)) : Res → Slots → H → Prop := retQ [ResA.cell 6 6 true, ResA.t 7, ResA.t 8] fun r' _ => Wkr r' (encRead o)

structure ReadS (s : Slots) (h : H) (w : Nat) (l : List Nat) (kind most : Int) (cs : List AV) : Prop where
  s0 : s 0 = encW (w :: l)
  s1 : s 1 = .int .i64 kind
  s6 : s 6 = .ptr 0 0
  s9 : s 9 = .ptr 1 0
  s11 : s 11 = encW l
  bn : h.bn = 2
  b0 : h.bx 0 = some [.int .i64 0, .int .i64 0, .int .i64 0, .int .i64 0, .str ⟨#[]⟩, .sl .full []]
  b1 : h.bx 1 = some cs

theorem read43 {s : Slots} {h : H} {w : Nat} {l : List Nat} {kind most : Int} {k : Nat} {x : Item} {t : Tok} (hs : ReadS s h w l kind most [.int .i64 x.kind, .int .i64 x.n, .int .i64 x.most, .int .i64 x.x, .str x.s, .sl t (x.l.map w64)]) (h13 : s 13 = .int .i64 k) (hk : k ≤ l.length) :
    Run Try.prog false [.c (.dreg c95_r43 c95_a43), .c .ret] (readQ (some (x, l.drop k))) s h := by
  obtain ⟨s0, s1, s6, s9, s11, bn, b0, b1⟩ := hs
  refine run_dreg c95_d43 ?_
  simp -implicitDefEqProofs [s9, s6, s11, h13, bn, b0, b1, -bndOf, bnd_nat hk, bnd_none, w64]
  exact Wkr.wk (by simp [encRead, encItm])

theorem ReadS.app {s : Slots} {h h' : H} {w : Nat} {l : List Nat} {kind most : Int} {cs : List AV} {T : Nat → Prop} (a : ReadS s h w l kind most cs) (e : HF h h' (fun _ => False) T) (hb : h'.bn = h.bn) : ReadS s h' w l kind most cs :=
  ⟨a.s0, a.s1, a.s6, a.s9, a.s11, hb.trans a.bn, (e.bx 0 (by rw [a.bn]; omega) fun h => h).trans a.b0, (e.bx 1 (by rw [a.bn]; omega) fun h => h).trans a.b1⟩
theorem ReadS.slots {s s' : Slots} {h : H} {w : Nat} {l : List Nat} {kind most : Int} {cs : List AV} (a : ReadS s h w l kind most cs) (h0 : s' 0 = s 0) (h1 : s' 1 = s 1) (h6 : s' 6 = s 6) (h9 : s' 9 = s 9) (h11 : s' 11 = s 11) : ReadS s' h w l kind most cs :=
  ⟨h0.trans a.s0, h1.trans a.s1, h6.trans a.s6, h9.trans a.s9, h11.trans a.s11, a.bn, a.b0, a.b1⟩

theorem wrap_u64n {n : Nat} (h : n < 18446744073709551616) : IntKind.u64.wrap (n : Int) = n := wrap_u64 (by omega) (by omega)
theorem wordDiv {v i : Nat} : v / 256 ^ i / 256 = v / 256 ^ (i + 1) := by rw [Nat.div_div_eq_div_mul, Nat.pow_succ]

theorem read26 {s : Slots} {h : H} {w : Nat} {l : List Nat} {kind most : Int} {n k : Nat} {t : Tok} (hl : ∀ w ∈ l, w < 18446744073709551616) (hs : ReadS s h w l kind most [.int .i64 kind, .int .i64 0, .int .i64 most, .int .i64 0, .str ⟨#[]⟩, .sl t ((l.take k).map w64)])
    (h12 : s 12 = .int .i64 n) (h13 : s 13 = .int .i64 k) (hk : k ≤ l.length) (h3 : kind = 3 → k = (n + 7) / 8 ∧ n ≤ 64) :
    Run Try.prog false [.c readT26] (readQ (if kind = 3 then (if packed (unpack n (l.take k)) = l.take k then some (⟨kind, 0, most, 0, unpack n (l.take k), l.take k⟩, l.drop k) else none) else some (⟨kind, 0, most, 0, ⟨#[]⟩, l.take k⟩, l.drop k))) s h := by
  unfold readT26
  by_cases k3 : kind = 3
  · obtain ⟨hkn, hn⟩ := h3 k3
    have hws : (l.take k).length = (n + 7) / 8 := by simp; omega
    have hww : ∀ w ∈ l.take k, w < 18446744073709551616 := fun w hw => hl w (List.mem_of_mem_take hw)
    have hiff := packed_unpack hws hww
    generalize hW : l.take k = ws at *
    rw [if_pos k3]
    have s1 := hs.s1
    simp -implicitDefEqProofs [s1, k3]
    refine run_loop (fun m s h => ∃ (j : Nat) (t2 : Tok), m = 8 * k - j ∧ j ≤ 8 * k ∧ ReadS s h w l kind most [.int .i64 kind, .int .i64 0, .int .i64 most, .int .i64 0, .str ⟨#[]⟩, .sl t (ws.map w64)] ∧ s 12 = .int .i64 n ∧ s 13 = .int .i64 k ∧ s 15 = .int .i64 j ∧ s 14 = .sl t2 ((wbytes ws (min j n)).map encB) ∧ TLive h t2 (min j n) ∧ ∀ i, n ≤ i → i < j → wbyte ws i = 0) ?_ (8 * k) ?_
    · rintro m s h ⟨j, t2, hm, hj, hs, h12, h13, h15, h14, hlv, hz⟩ ih
      have e8 : IntKind.i64.wrap (8 * (k : Int)) = 8 * (k : Int) := wrap_i64 (by omega) (by omega)
      simp -implicitDefEqProofs [h13, h15, e8]
      by_cases hjk : j < 8 * k
      · have hjk' : (j : Int) < 8 * (k : Int) := by omega
        have hj8 : j / 8 < ws.length := by omega
        have i1 : idxOf (.int .i64 ((j / 8 : Nat) : Int)) ws.length = some (j / 8) := idxOf_nat hj8
        have q1 : ((j : Int)).tdiv 8 = ((j / 8 : Nat) : Int) := by rw [Int.tdiv_eq_ediv_of_nonneg (by omega)]; omega
        have q3 : ((j : Int)).tmod 8 = ((j % 8 : Nat) : Int) := by rw [Int.tmod_eq_emod_of_nonneg (by omega)]; omega
        have q4 : IntKind.i64.wrap ((j / 8 : Nat) : Int) = ((j / 8 : Nat) : Int) := wrap_i64 (by omega) (by omega)
        have wd : wbyte ws j = ws[j / 8] / 256 ^ (j % 8) % 256 := by unfold wbyte; rw [List.getD_eq_getElem?_getD, List.getElem?_eq_getElem hj8]; rfl
        have wl : ws[j / 8] < 18446744073709551616 := hww _ (List.getElem_mem hj8)
        simp -implicitDefEqProofs [hjk', hs.s9, hs.bn, hs.b1, h15, i1, hj8, q1, q4, w64, -idxOf, -Int.natCast_ediv, -Int.natCast_emod]
        refine run_loop (fun m' s2 h2 => ∃ i : Nat, m' = j % 8 - i ∧ i ≤ j % 8 ∧ h2 = h ∧ ReadS s2 h w l kind most [.int .i64 kind, .int .i64 0, .int .i64 most, .int .i64 0, .str ⟨#[]⟩, .sl t (ws.map w64)] ∧ s2 12 = .int .i64 n ∧ s2 13 = .int .i64 k ∧ s2 15 = .int .i64 j ∧ s2 14 = s 14 ∧ s2 16 = .int .u64 (ws[j / 8] / 256 ^ i : Nat) ∧ s2 17 = .int .i64 i) ?_ (j % 8) ?_
        · rintro m' s2 h2 ⟨i, hm', hi, rfl, gs, g12, g13, g15, g14, g16, g17⟩ ih2
          simp -implicitDefEqProofs [g15, g17, q3, -Int.natCast_emod]
          by_cases hij : i < j % 8
          · have d1 : (((ws[j / 8] / 256 ^ i : Nat) : Int)).tdiv 256 = ((ws[j / 8] / 256 ^ (i + 1) : Nat) : Int) := by
              rw [Int.tdiv_eq_ediv_of_nonneg (Int.natCast_nonneg _), ← wordDiv]
              generalize ws[j / 8] / 256 ^ i = y
              omega
            have d2 : ws[j / 8] / 256 ^ (i + 1) ≤ ws[j / 8] := Nat.div_le_self _ _
            have d3 : IntKind.u64.wrap ((ws[j / 8] / 256 ^ (i + 1) : Nat) : Int) = ((ws[j / 8] / 256 ^ (i + 1) : Nat) : Int) := wrap_u64n (Nat.lt_of_le_of_lt d2 wl)
            simp -implicitDefEqProofs [hij, g16, g17, d1, d3, inc_i64 hij (by omega), -Int.natCast_ediv, -Int.natCast_add, -Int.natCast_emod]
            exact ih2 (j % 8 - (i + 1)) _ _ (by omega) ⟨i + 1, rfl, by omega, rfl, gs.slots (by simp) (by simp) (by simp) (by simp) (by simp), by simp [g12], by simp [g13], by simp [g15], by simp [g14], by simp, by simp⟩
          · have hi8 : i = j % 8 := by omega
            subst hi8
            have d1 : (((ws[j / 8] / 256 ^ (j % 8) : Nat) : Int)).tmod 256 = (wbyte ws j : Int) := by
              rw [Int.tmod_eq_emod_of_nonneg (Int.natCast_nonneg _), wd]
              generalize ws[j / 8] / 256 ^ (j % 8) = y
              omega
            have wl2 := wbyte_lt ws j
            have d2 : IntKind.u8.wrap (wbyte ws j : Int) = (wbyte ws j : Int) := by
              have w8 : ∀ y : Int, IntKind.u8.wrap y = y % 256 := fun y => by simp [IntKind.wrap, IntKind.bits, IntKind.signed]
              rw [w8]; omega
            simp -implicitDefEqProofs [hij, g12, g15, -Int.natCast_emod]
            by_cases hjn : j < n
            · have hmin : min j n = j := by omega
              have hmin' : min (j + 1) n = j + 1 := by omega
              rw [hmin] at h14 hlv
              simp -implicitDefEqProofs [hjn, g14, h14, g16, d1, d2, -Int.natCast_ediv]
              refine appQ_tok (es2 := [encB (wbyte ws j)]) (by simpa using hlv) (encB_len _) (by simp [srcA, encB]) (by simp; omega) fun t' h4' p1 p2 p3 p4 => ?_
              simp -implicitDefEqProofs [g15, inc_i64 hjk (by omega), -Int.natCast_add]
              refine ih (8 * k - (j + 1)) _ _ (by omega) ⟨j + 1, t', rfl, by omega, (gs.app p3 p4).slots (by simp) (by simp) (by simp) (by simp) (by simp), by simp [g12], by simp [g13], by simp, by simp [hmin', wbytes_succ], by simpa [hmin'] using p1, fun i h1 h2 => by omega⟩
            · have hmin : min j n = n := by omega
              have hmin' : min (j + 1) n = n := by omega
              by_cases hb0 : wbyte ws j = 0
              · simp -implicitDefEqProofs [hjn, g16, d1, hb0, g15, inc_i64 hjk (by omega), -Int.natCast_ediv, -Int.natCast_add]
                refine ih (8 * k - (j + 1)) _ _ (by omega) ⟨j + 1, t2, rfl, by omega, gs.slots (by simp) (by simp) (by simp) (by simp) (by simp), by simp [g12], by simp [g13], by simp, by simp [hmin', g14, h14, hmin], by rw [hmin', ← hmin]; exact hlv, fun i h1 h2 => ?_⟩
                by_cases hij : i = j
                · rw [hij]; exact hb0
                · exact hz i h1 (by omega)
              · have hnp : ¬ packed (unpack n ws) = ws := fun h => hb0 (hiff.1 h j (by omega) (by omega))
                simp -implicitDefEqProofs [hjn, g16, d1, hb0, gs.s9, gs.s6, gs.s0, gs.bn, gs.b0, gs.b1, hnp, -Int.natCast_ediv]
                exact bad6 rfl rfl
        · exact ⟨0, by simp, by omega, rfl, hs.slots (by simp) (by simp) (by simp) (by simp) (by simp), by simp [h12], by simp [h13], by simp [h15], by simp, by simp, by simp⟩
      · have hjk' : ¬ (j : Int) < 8 * (k : Int) := by omega
        have hp : packed (unpack n ws) = ws := hiff.2 fun i h1 h2 => hz i h1 (by omega)
        have hmin : min j n = n := by omega
        rw [hmin] at h14
        simp -implicitDefEqProofs [hjk', hs.s9, hs.bn, hs.b1, h14, bytesOf_ok, strOf_unpack, -List.map_map, hp]
        subst hW
        have hs' : ReadS s (h.set 1 [.int .i64 kind, .int .i64 0, .int .i64 most, .int .i64 0, .str (unpack n (l.take k)), .sl t ((l.take k).map w64)]) w l kind most [.int .i64 kind, .int .i64 0, .int .i64 most, .int .i64 0, .str (unpack n (l.take k)), .sl t ((l.take k).map w64)] :=
          ⟨hs.s0, hs.s1, hs.s6, hs.s9, hs.s11, hs.bn, by simpa using hs.b0, by simp⟩
        subst k3
        exact read43 (x := ⟨3, 0, most, 0, unpack n (l.take k), l.take k⟩) (hs'.slots (by simp) (by simp) (by simp) (by simp) (by simp)) (by simp [h13]) hk
    · exact ⟨0, .full, by simp, by omega, hs.slots (by simp) (by simp) (by simp) (by simp) (by simp), by simp [h12], by simp [h13], by simp, by simp [wbytes], trivial, fun i h1 h2 => by omega⟩
  · have s1 := hs.s1
    rw [if_neg k3]
    simp -implicitDefEqProofs [s1, k3]
    exact read43 (x := ⟨kind, 0, most, 0, ⟨#[]⟩, l.take k⟩) (hs.slots (by simp) (by simp) (by simp) (by simp) (by simp)) (by simp [h13]) hk

theorem read23 {s : Slots} {h : H} {w : Nat} {l : List Nat} {kind most : Int} {n k : Nat} (hl : ∀ w ∈ l, w < 18446744073709551616) (hlen : l.length ≤ 1000000) (hs : ReadS s h w l kind most [.int .i64 kind, .int .i64 0, .int .i64 most, .int .i64 0, .str ⟨#[]⟩, .sl .full []])
    (h12 : s 12 = .int .i64 n) (h13 : s 13 = .int .i64 k) (h3 : kind = 3 → k = (n + 7) / 8 ∧ n ≤ 64) :
    Run Try.prog false [.c readT23] (readQ (if k ≤ l.length then (if kind = 3 then (if packed (unpack n (l.take k)) = l.take k then some (⟨kind, 0, most, 0, unpack n (l.take k), l.take k⟩, l.drop k) else none) else some (⟨kind, 0, most, 0, ⟨#[]⟩, l.take k⟩, l.drop k)) else none)) s h := by
  unfold readT23
  obtain ⟨s0, s1, s6, s9, s11, bn, b0, b1⟩ := id hs
  by_cases hk : k ≤ l.length
  · rw [if_pos hk]
    have hk' : ¬ l.length < k := by omega
    simp -implicitDefEqProofs [s11, h13, hk', -bndOf, bnd_nat hk, bnd_none]
    refine appQ_w [] (l.take k) (by simp) (by simp) (t := .full) trivial (by simp; omega) fun t' h' q1 q2 q3 q4 => ?_
    have hs' := hs.app q3 q4
    simp -implicitDefEqProofs [s9, hs'.bn, hs'.b1]
    refine read26 (w := w) (t := t') hl ⟨by simp [s0], by simp [s1], by simp [s6], by simp [s9], by simp [s11], by simpa using hs'.bn, by simpa using hs'.b0, by simp⟩ (by simp [h12]) (by simp [h13]) hk h3
  · rw [if_neg hk]
    have hk' : l.length < k := by omega
    simp -implicitDefEqProofs [s11, h13, hk', s9, s6, s0, bn, b0, b1]
    exact bad6 rfl rfl

theorem read14 {s : Slots} {h : H} {w : Nat} {l : List Nat} {kind most M : Int} (hM : inI M) (hl : ∀ w' ∈ w :: l, w' < 18446744073709551616) (hlen : l.length ≤ 1000000) (hs : ReadS s h w l kind most [.int .i64 kind, .int .i64 0, .int .i64 most, .int .i64 0, .str ⟨#[]⟩, .sl .full []])
    (h2 : s 2 = .int .i64 M) (h10 : s 10 = .int .u64 w) (hk1 : kind ≠ 1) (hk2 : kind = 2 → M = 1) (hk3 : kind = 3 → M = 64) (hkM : kind ≠ 2 → kind ≠ 3 → M = most) :
    Run Try.prog false [.c readT14] (readQ (refRead kind most (w :: l))) s h := by
  unfold readT14
  obtain ⟨s0, s1, s6, s9, s11, bn, b0, b1⟩ := id hs
  have hw := hl w (List.mem_cons_self ..)
  have hl' : ∀ w' ∈ l, w' < 18446744073709551616 := fun w' h => hl w' (List.mem_cons_of_mem _ h)
  obtain ⟨M1, M2⟩ := hM
  have hno : ¬ (0 ≤ M ∧ (w : Int) ≤ M) → refRead kind most (w :: l) = none := fun hn => by
    unfold refRead
    rw [if_neg hk1]
    by_cases k0 : kind = 0
    · have := hkM (by omega) (by omega)
      subst this
      simp [k0, rdCount, hn]
    by_cases k2 : kind = 2
    · have := hk2 k2
      subst this
      have : rdCount 1 (w :: l) = none := by exact if_neg hn
      simp [k2, this]
    by_cases k3 : kind = 3
    · have := hk3 k3
      subst this
      have : rdCount 64 (w :: l) = none := by exact if_neg hn
      simp [k3, rdTextW, Rd.bind, this]
    · have := hkM k2 k3
      subst this
      simp [k0, k2, k3, rdWords, rdCount, hn]
  by_cases m0 : M < 0
  · rw [hno (by omega)]
    simp -implicitDefEqProofs [h2, m0, s9, s6, s0, bn, b0, b1]
    exact bad6 rfl rfl
  have eM : IntKind.u64.wrap M = M := wrap_u64 (by omega) (by omega)
  by_cases mw : M < (w : Int)
  · rw [hno (by omega)]
    simp -implicitDefEqProofs [h2, m0, h10, eM, mw, s9, s6, s0, bn, b0, b1]
    exact bad6 rfl rfl
  have eW : IntKind.i64.wrap (w : Int) = (w : Int) := wrap_i64 (by omega) (by omega)
  have ok : 0 ≤ M ∧ (w : Int) ≤ M := by omega
  by_cases k0 : kind = 0
  · have hM := hkM (by omega) (by omega)
    subst hM
    have hr : refRead kind M (w :: l) = some (⟨kind, w, M, 0, ⟨#[]⟩, []⟩, l) := by
      unfold refRead
      simp [k0, rdCount, ok]
    rw [hr]
    simp -implicitDefEqProofs [h2, m0, h10, eM, eW, mw, s1, k0, s9, s6, s11, bn, b0, b1]
    exact Wkr.wk (by simp [encRead, encItm])
  by_cases k2 : kind = 2
  · have hM := hk2 k2
    subst hM
    have hr : refRead kind most (w :: l) = some (⟨kind, w, most, 0, ⟨#[]⟩, []⟩, l) := by
      unfold refRead
      simp [k2, rdCount, ok]
    rw [hr]
    simp -implicitDefEqProofs [h2, m0, h10, eM, eW, mw, s1, k2, s9, s6, s11, bn, b0, b1]
    exact Wkr.wk (by simp [encRead, encItm])
  by_cases k3 : kind = 3
  · have hM := hk3 k3
    subst hM
    have hw64 : w ≤ 64 := by omega
    have e1 : IntKind.i64.wrap ((w : Int) + 7) = (w : Int) + 7 := wrap_i64 (by omega) (by omega)
    have e3 : IntKind.i64.wrap (((w : Int) + 7).tdiv 8) = (((w + 7) / 8 : Nat) : Int) := by
      rw [Int.tdiv_eq_ediv_of_nonneg (by omega), wrap_i64 (by omega) (by omega)]
      omega
    have hr : refRead kind most (w :: l) = (if (w + 7) / 8 ≤ l.length then (if kind = 3 then (if packed (unpack w (l.take ((w + 7) / 8))) = l.take ((w + 7) / 8) then some (⟨kind, 0, most, 0, unpack w (l.take ((w + 7) / 8)), l.take ((w + 7) / 8)⟩, l.drop ((w + 7) / 8)) else none) else some (⟨kind, 0, most, 0, ⟨#[]⟩, l.take ((w + 7) / 8)⟩, l.drop ((w + 7) / 8))) else none) := by
      have e : rdCount 64 (w :: l) = some ((w : Int), l) := if_pos ok
      unfold refRead
      rw [if_neg hk1, if_neg k0, if_neg k2, if_pos k3]
      simp only [rdTextW, Rd.bind, e, Option.bind_some, Int.toNat_natCast, rdTake]
      by_cases h1 : (w + 7) / 8 ≤ l.length
      · simp only [if_pos h1, Option.bind_some, if_pos k3]
        split <;> simp
      · simp [h1]
    rw [hr]
    simp -implicitDefEqProofs [h2, m0, h10, eM, eW, mw, s1, k3, e1, e3, -Int.natCast_ediv]
    subst k3
    exact read23 hl' hlen (hs.slots (by simp) (by simp) (by simp) (by simp) (by simp)) (by simp) (by simp) fun _ => ⟨rfl, hw64⟩
  · have hM := hkM k2 k3
    subst hM
    have hr : refRead kind M (w :: l) = (if w ≤ l.length then (if kind = 3 then (if packed (unpack w (l.take w)) = l.take w then some (⟨kind, 0, M, 0, unpack w (l.take w), l.take w⟩, l.drop w) else none) else some (⟨kind, 0, M, 0, ⟨#[]⟩, l.take w⟩, l.drop w)) else none) := by
      have e : rdCount M (w :: l) = some ((w : Int), l) := if_pos ok
      unfold refRead
      rw [if_neg hk1, if_neg k0, if_neg k2, if_neg k3]
      simp only [rdWords, e, Option.bind_some, Int.toNat_natCast, rdTake]
      by_cases h1 : w ≤ l.length
      · simp [h1, k3]
      · simp [h1]
    simp -implicitDefEqProofs [h2, m0, h10, eM, eW, mw, s1, k0, k2, k3]
    rw [hr]
    refine read23 (w := w) (n := w) (k := w) hl' hlen ?_ (by simp) (by simp) fun h => absurd h k3
    exact hs.slots (by simp) (by simp) (by simp) (by simp) (by simp)

theorem refRead_ok {l : List Nat} (hl : Bd (some l)) (kind : Int) {most : Int} (hm : inI most) : PCall Try.prog 95 [encW l, .int .i64 kind, .int .i64 most] (encRead (refRead kind most l)) := by
  refine PCall.runW hb95 ok95 (by simp) (pures_cons (pure_w64 l) (pures_cons (.int _ _) (pures1 (.int _ _)))) (pure_encRead _) (wk_encRead _) ?_
  obtain ⟨hlen, hb⟩ := hl l rfl
  obtain ⟨m1, m2⟩ := id hm
  cases l with
  | nil =>
    have : refRead kind most [] = none := by unfold refRead; split <;> (try split) <;> (try split) <;> (try split) <;> rfl
    simp -implicitDefEqProofs [this]
    exact bad6 rfl rfl
  | cons w l =>
    have hw := hb w (List.mem_cons_self ..)
    have e0 : ¬ (l.length : Int) + 1 = 0 := by omega
    have e1 : (1 : Int) ≤ (l.length : Int) + 1 := by omega
    have e2 : List.take l.length (List.map w64 l) = List.map w64 l := List.take_of_length_le (by simp)
    have hlen' : l.length ≤ 1000000 := by simp at hlen; omega
    by_cases k1 : kind = 1
    · simp -implicitDefEqProofs [e0, e1, k1, w64, bndOf]
      refine callQ_p (refBack_ok w hw) (by simp) ?_
      simp -implicitDefEqProofs [e2, refRead, rdSigned, encRead, encItm]
      exact Wkr.wk (by simp [])
    · have hs : ReadS (su (slots0 [encW (w :: l), .int .i64 kind, .int .i64 most]) 6 (.ptr 0 0) |> fun s => su (su s 9 (.ptr 1 0)) 11 (encW l)) (((H.nil.alloc [.int .i64 0, .int .i64 0, .int .i64 0, .int .i64 0, .str ⟨#[]⟩, .sl .full []]).alloc [.int .i64 0, .int .i64 0, .int .i64 0, .int .i64 0, .str ⟨#[]⟩, .sl .full []]).set 1 [.int .i64 kind, .int .i64 0, .int .i64 most, .int .i64 0, .str ⟨#[]⟩, .sl .full []]) w l kind most [.int .i64 kind, .int .i64 0, .int .i64 most, .int .i64 0, .str ⟨#[]⟩, .sl .full []] :=
        ⟨by simp, by simp, by simp, by simp, by simp, rfl, by simp [H.nil], by simp⟩
      simp -implicitDefEqProofs [e0, e1, e2, k1, w64, bndOf]
      refine condQ_split (fun k2 => ?_) (fun k2 => ?_)
      · change Run Try.prog false [It.c (if true = true then IR.reg c95_r11 else IR.skip), It.c (.seq (.seq (.reg c95_r12) (.cond (.t 41) (.reg c95_r13) (.skip))) readT14)] _ _ _
        simp -implicitDefEqProofs [k2]
        subst k2
        refine read14 (M := 1) ⟨by omega, by omega⟩ hb hlen' ?_ (by simp) (by simp) k1 (fun _ => rfl) (fun h => by omega) (fun h => absurd rfl h)
        exact hs.slots (by simp [w64]) (by simp) (by simp [H.nil]) (by simp [H.nil]) (by simp [])
      · change Run Try.prog false [It.c (if false = true then IR.reg c95_r11 else IR.skip), It.c (.seq (.seq (.reg c95_r12) (.cond (.t 41) (.reg c95_r13) (.skip))) readT14)] _ _ _
        by_cases k3 : kind = 3
        · simp -implicitDefEqProofs [k3]
          subst k3
          refine read14 (M := 64) ⟨by omega, by omega⟩ hb hlen' ?_ (by simp) (by simp) k1 (fun h => by omega) (fun _ => rfl) (fun _ h => absurd rfl h)
          exact hs.slots (by simp [w64]) (by simp) (by simp [H.nil]) (by simp [H.nil]) (by simp [])
        · simp -implicitDefEqProofs [k2, k3]
          refine read14 (M := most) hm hb hlen' ?_ (by simp) (by simp) k1 (fun h => absurd h k2) (fun h => absurd h k3) (fun _ _ => rfl)
          exact hs.slots (by simp [w64]) (by simp) (by simp [H.nil]) (by simp [H.nil]) (by simp [])
end Go.Proofs

/- The statements CodesRead and CodesBack: what their functions hand back. -/
namespace Go.Proofs
open Go Go.RowKit Go.Am

/-- An item is read like another one: is it the same? -/
def readS (x : Item) (s : RS) : Bool × RS :=
  if x.kind = 0 then (decide ((runS (rdCount x.most) 0 s).1 = x.n), (runS (rdCount x.most) 0 s).2)
  else if x.kind = 1 then (decide ((runS rdSigned 0 s).1 = x.x), (runS rdSigned 0 s).2)
  else if x.kind = 2 then (decide ((runS rdFlag false s).1 = decide (x.n = 1)), (runS rdFlag false s).2)
  else if x.kind = 3 then (decide ((runS rdText ⟨#[]⟩ s).1 = x.s), (runS rdText ⟨#[]⟩ s).2)
  else (decide ((runS (rdWords x.most) [] s).1 = x.l), (runS (rdWords x.most) [] s).2)

structure RdX (f : FuncId) (args : List AV) (h : H) (b : Nat) (r : AV) (s' : RS) : Prop where
  call : SCall Try.prog f args h r (h.set b (encRS s'))
  to : RTo h b (h.set b (encRS s')) s'
theorem RdX.mk' {f : FuncId} {args : List AV} {h : H} {b : Nat} {s s' : RS} {r : AV} (hr : RIs h b s) (hb : Bd s') (hv : PureV r) (hc : CallP Try.prog f args h fun r1 h1 => wk r1 = r ∧ RFin h b h1 s') : RdX f args h b r s' :=
  ⟨SCall.upd hr.blt (hc.mono fun r1 h1 ⟨q1, q2, q3⟩ => ⟨q1, q2, q3⟩) hv (pure_encRS _), RTo.set hr hb⟩

theorem readS_bd (x : Item) {s : RS} (hs : Bd s) : Bd (readS x s).2 := by
  unfold readS
  split
  · exact (rdCount_ok _).bd _ hs
  split
  · exact rdSigned_ok.bd _ hs
  split
  · exact rdFlag_ok.bd _ hs
  split
  · exact rdText_ok.bd _ hs
  · exact (rdWords_ok _).bd _ hs

theorem rdWords_len {most : Int} {s : RS} (hs : Bd s) : (runS (rdWords most) [] s).1.length ≤ 1000000 := by
  cases s with
  | none => simp [runS]
  | some l =>
    have hl := (hs l rfl).1
    cases l with
    | nil => simp [runS, rdWords, rdCount]
    | cons w l =>
      simp only [runS, Option.bind_some, rdWords, rdCount, rdTake]
      split
      · simp only [Option.bind_some]
        split
        · simp only [Option.elim]; simp at hl ⊢; omega
        · simp
      · simp

end Go.Proofs

/- The statement CodesRead: what its function hands back. -/
namespace Go.Proofs
open Go Go.RowKit Go.Am

theorem RIs.setO {h : H} {b b' : Nat} {s : RS} {cs : List AV} (a : RIs h b s) (hn : ¬ b' = b) : RIs (h.set b' cs) b s :=
  ⟨by simpa using a.blt, by have : ¬ b = b' := fun e => hn e.symm
                            simpa [this] using a.bx, a.bd⟩

theorem readS_good {kind most : Int} {l left : List Nat} {y : Item} (h : refRead kind most l = some (y, left)) : readS y (some l) = (true, some left) ∧ y.kind = kind ∧ y.most = most := by
  unfold refRead at h
  unfold readS
  by_cases k1 : kind = 1
  · rw [if_pos k1, Option.map_eq_some_iff] at h
    obtain ⟨p, h1, h2⟩ := h
    cases h2
    simp [k1, runS, h1]
  rw [if_neg k1] at h
  by_cases k0 : kind = 0
  · rw [if_pos k0, Option.map_eq_some_iff] at h
    obtain ⟨p, h1, h2⟩ := h
    cases h2
    simp [k0, runS, h1]
  rw [if_neg k0] at h
  by_cases k2 : kind = 2
  · rw [if_pos k2, Option.map_eq_some_iff] at h
    obtain ⟨p, h1, h2⟩ := h
    cases h2
    simp [k2, runS, rdFlag, h1]
  rw [if_neg k2] at h
  by_cases k3 : kind = 3
  · rw [if_pos k3, Option.map_eq_some_iff] at h
    obtain ⟨p, h1, h2⟩ := h
    cases h2
    have := rdText_W l
    rw [h1] at this
    simp [k3, runS, this]
  · rw [if_neg k3, Option.map_eq_some_iff] at h
    obtain ⟨p, h1, h2⟩ := h
    cases h2
    simp [k0, k1, k2, k3, runS, h1]

theorem refRead_bd {kind most : Int} {l left : List Nat} {y : Item} (hl : Bd (some l)) (h : refRead kind most l = some (y, left)) : Bd (some left) ∧ y.l.length ≤ 1000000 := by
  have hg := (readS_good h).1
  have hb := readS_bd y hl
  rw [hg] at hb
  refine ⟨hb, ?_⟩
  have hlen := (hl l rfl).1
  unfold refRead at h
  split at h
  · rw [Option.map_eq_some_iff] at h; obtain ⟨p, _, h2⟩ := h; cases h2; simp
  split at h
  · rw [Option.map_eq_some_iff] at h; obtain ⟨p, _, h2⟩ := h; cases h2; simp
  split at h
  · rw [Option.map_eq_some_iff] at h; obtain ⟨p, _, h2⟩ := h; cases h2; simp
  split at h
  · rw [Option.map_eq_some_iff] at h
    obtain ⟨p, h1, h2⟩ := h
    cases h2
    simp only [rdTextW, Rd.bind, Option.bind_eq_some_iff] at h1
    obtain ⟨a, ha, c, hc, h1⟩ := h1
    simp only [rdTake] at hc
    split at hc
    · cases hc
      have h3 := (rdCount_ok 64 l a.1 a.2 ha).1
      split at h1
      · cases h1; simp; omega
      · cases h1
    · cases hc
  · rw [Option.map_eq_some_iff] at h
    obtain ⟨p, h1, h2⟩ := h
    cases h2
    have := rdWords_len (most := most) hl
    simp [runS, h1] at this
    exact this

end Go.Proofs

/- What is read as a template, an instruction, a span, a program, a footprint, a class: plain laws; contracts of readers. -/
namespace Go.Proofs
open Go Go.RowKit Go.Am

def Rd.none {α : Type} : Rd α := fun _ => Option.none
def Rd.rep {α : Type} (p : Rd α) : Nat → Rd (List α)
  | 0 => Rd.pure []
  | k + 1 => (Rd.rep p k).bind fun L => p.bind fun a => Rd.pure (L ++ [a])
def rdKey : Rd KeyT := rdSigned.bind fun a => if a < -1 ∨ 255 < a then Rd.none else (rdCount 999).bind fun n => Rd.pure ⟨a, n⟩
def rdInst : Rd Inst := (rdCount 255).bind fun op => (rdCount 255).bind fun a => (rdCount 255).bind fun b => (rdCount 255).bind fun c => rdKey.bind fun k => rdKey.bind fun l => rdSigned.bind fun x => Rd.pure ⟨op, a, b, c, k, l, x⟩
def rdSpanT : Rd SpanT := rdKey.bind fun lo => rdKey.bind fun hi => rdFlag.bind fun w => Rd.pure ⟨lo, hi, w⟩
def rdProg : Rd (List Inst) := (rdCount 8).bind fun n => Rd.rep rdInst n.toNat
def rdFoot : Rd (List SpanT) := (rdCount 4).bind fun n => Rd.rep rdSpanT n.toNat
def rdStp : Rd Stp := rdProg.bind fun c => rdFoot.bind fun f => Rd.pure ⟨c, f⟩
def rdPair : Rd (Stp × Stp) := rdStp.bind fun s => rdStp.bind fun u => Rd.pure (s, u)
theorem Got.bad {α : Type} {p : Rd α} {s' : RS} {a : α} (h : Got p none a s') : s' = none := h
/-- Where it isn't right, the value doesn't count. -/
theorem Got.any {α : Type} {p : Rd α} {s : RS} {a : α} (h : Got p s a none) (b : α) : Got p s b none := by
  unfold Got at h ⊢
  cases hp : s.bind p with
  | none => rfl
  | some x => rw [hp] at h; obtain ⟨_, h2⟩ := h; cases h2
theorem Got.eq {α : Type} {p : Rd α} {s : RS} {a : α} {l' : List Nat} (h : Got p s a (some l')) (d : α) : Proofs.runS p d s = (a, some l') := by
  unfold Got at h
  unfold Proofs.runS
  cases hp : s.bind p with
  | none => rw [hp] at h; cases h
  | some x => rw [hp] at h; obtain ⟨rfl, h2⟩ := h; cases h2; rfl
theorem Got.none_eq {α : Type} {p : Rd α} {s : RS} {a : α} (h : Got p s a none) (d : α) : Proofs.runS p d s = (d, none) := by
  unfold Got at h
  unfold Proofs.runS
  cases hp : s.bind p with
  | none => rfl
  | some x => rw [hp] at h; obtain ⟨_, h2⟩ := h; cases h2

theorem RdOK.none {α : Type} : RdOK (Rd.none (α := α)) := fun l a l' h => by cases h
theorem RdOK.rep {α : Type} {p : Rd α} (hp : RdOK p) : ∀ k, RdOK (Rd.rep p k)
  | 0 => RdOK.pure _
  | k + 1 => (RdOK.rep hp k).bind fun _ => hp.bind fun _ => RdOK.pure _
theorem CutOK.upd {P : Program} {h h1 : H} {b : Nat} {cs cs1 : List AV} {r1 r : AV} (hb : b < h.bn) (e : wk r1 = r) (hf : HF h h1 (· = b) (fun _ => False)) (hb1 : h1.bx b = some cs1) (hcs1 : WkL cs1 cs) (hr : PureV r) (hcs : ∀ v ∈ cs, PureV v) : CutOK h h1 (h.set b cs) id r1 r := by
  refine ⟨Nat.le_refl _, fun _ _ => rfl, fun b hb => Nat.lt_of_lt_of_le hb hf.bn, fun _ _ _ _ h => h, fun b' cs' hb' hcs' => ?_, ⟨Nat.le_refl _, hf.tn⟩, fun i hi => (hf.tk i hi fun h => h).symm, ⟨rfl, hf.ln⟩,
    fun l q hl hq => ⟨(hf.lp l hl).trans hq, q, hq, rfl⟩, ⟨rfl, hf.mn⟩, fun m es hm hes => ⟨(hf.mp m hm).trans hes, hes⟩, Low.weak' ?_⟩
  · by_cases hbb : b' = b
    · subst hbb
      have : cs = cs' := by simpa [H.set] using hcs'
      subst this
      exact .inr ⟨cs1, hb1, hcs1, fun v hv => (hcs v hv).low _ _ _ _ _⟩
    · have : h.bx b' = some cs' := by simpa [H.set, hbb] using hcs'
      exact .inl ⟨hb', (hf.bx b' hb' hbb).trans this, this⟩
  · rw [e]
    exact hr.low _ _ _ _ _

/-- A piece of reading, whatever it hands back where it isn't right. -/
def RdQ {α : Type} (f : FuncId) (args : List AV) (h : H) (b : Nat) (s : RS) (p : Rd α) (enc : α → AV) : Prop :=
  CallP Try.prog f args h fun r h1 => ∃ a s', r = enc a ∧ h1 = h.set b (encRS s') ∧ RTo h b h1 s' ∧ Got p s a s'
theorem RdQ.mk' {α : Type} {f : FuncId} {args : List AV} {h : H} {b : Nat} {s : RS} {p : Rd α} {enc : α → AV} (hr : RIs h b s) (hv : ∀ a, PureV (enc a))
    (hc : CallP Try.prog f args h fun r h1 => ∃ a s', wk r = enc a ∧ RFin h b h1 s' ∧ Bd s' ∧ Got p s a s') : RdQ f args h b s p enc :=
  hc.cut fun r h1 ⟨a, s', e, ⟨hf, cs1, hb1, hcs1⟩, hbd, hg⟩ => ⟨h.set b (encRS s'), id, enc a, CutOK.upd (P := Try.prog) hr.blt e hf hb1 hcs1 (hv a) (pure_encRS _), a, s', rfl, rfl, RTo.set hr hbd, hg⟩
theorem RdS.q {α : Type} {f : FuncId} {args : List AV} {h : H} {b : Nat} {s : RS} {p : Rd α} {d : α} {enc : α → AV} (hc : RdS f args h b s p d enc) : RdQ f args h b s p enc :=
  hc.call.callP ⟨_, _, rfl, rfl, hc.to, Got.runS p d s⟩
theorem callQ_r {α : Type} {f : FuncId} {first caps args as' : List AV} {h : H} {b : Nat} {s : RS} {p : Rd α} {enc : α → AV} {K : AV → H → Prop} (hc : RdQ f as' h b s p enc) (ha : (first ++ args ++ caps).map wk = as')
    (hk : ∀ a s', RTo h b (h.set b (encRS s')) s' → Got p s a s' → K (enc a) (h.set b (encRS s'))) : callQ Try.prog (.fn f first caps) args h K :=
  callQ_c hc ha fun r h1 ⟨a, s', e1, e2, q1, q2⟩ => by subst e1; subst e2; exact hk a s' q1 q2
/-- What is read whole, or nothing. -/
theorem RdS.of {α : Type} {f : FuncId} {args : List AV} {h : H} {b : Nat} {s : RS} {p : Rd α} {d : α} {enc : α → AV} (hr : RIs h b s) (hp : RdOK p) (hv : ∀ a, PureV (enc a))
    (hc : CallP Try.prog f args h fun r h1 => ∃ a s', wk r = enc a ∧ RFin h b h1 s' ∧ Got p s a s' ∧ (s' = none → a = d)) : RdS f args h b s p d enc :=
  RdS.mk' hr hp hv (hc.mono fun r h1 ⟨a, s', q1, q2, q3, q4⟩ => by
    cases s' with
    | none =>
      rw [Got.none_eq q3 d, ← q4 rfl]
      exact ⟨q1, q2⟩
    | some l =>
      rw [Got.eq q3 d]
      exact ⟨q1, q2⟩)

/-- A slice that was made since. -/
def TNew (h : H) (t : Tok) : Prop := ∀ i, i < h.tn → ¬ TOwn t i
theorem TNew.full (h : H) : TNew h .full := fun i _ h => by cases h
theorem TNew.next {h h1 : H} {t t' : Tok} {B T : Nat → Prop} (a : TNew h t) (e : HF h h1 B T) (n : TNext h1 t t') : TNew h t' := fun i hi ho => by
  rcases n with rfl | ⟨j, rfl, hj⟩
  · exact a i hi ho
  · cases ho
    have := e.tn
    omega
theorem RTo.app {h h1 h2 : H} {b : Nat} {s : RS} {t : Tok} (a : RTo h b h1 s) (ht : TNew h t) (e : HF h1 h2 (fun _ => False) (TOwn t)) : RTo h b h2 s :=
  ⟨a.keep.trans' e (fun _ _ h => h.elim) (fun i hi h => ht i hi h), a.is.keep e fun h => h⟩
theorem RTo.al {h h1 : H} {b : Nat} {s : RS} (a : RTo h b h1 s) (cs : List AV) : RTo h b (h1.alloc cs) s := ⟨a.keep.trans (HF.alloc _ _ _ _), a.is.alloc _⟩
theorem RTo.so {h h1 : H} {b b' : Nat} {s : RS} (a : RTo h b h1 s) (hn : h.bn ≤ b') (hb : b < h.bn) (cs : List AV) : RTo h b (h1.set b' cs) s :=
  ⟨a.keep.trans' (HF.set (B := (· = b')) _ rfl) (fun x hx e => by have e : x = b' := e; omega) (fun _ _ h => h), a.is.setO (by omega)⟩
theorem RFin.so {h h1 : H} {b b' : Nat} {s : RS} (a : RFin h b h1 s) (hn : h.bn ≤ b') (hb : b < h.bn) (cs : List AV) : RFin h b (h1.set b' cs) s := by
  obtain ⟨q1, cs1, q2, q3⟩ := a
  exact ⟨q1.trans' (HF.set (B := (· = b')) _ rfl) (fun x hx e => by have e : x = b' := e; omega) (fun _ _ h => h), cs1, by simp [show ¬ b = b' by omega, q2], q3⟩
end Go.Proofs

/- The program's readers of programs and footprints. -/
namespace Go.Proofs
open Go Go.RowKit Go.Am

end Go.Proofs

/- The program's readers of programs and footprints, whole. -/
namespace Go.Proofs
open Go Go.RowKit Go.Am

/-- What a loop of reading has done. -/
structure RLoop {α : Type} (h : H) (b : Nat) (s1 : RS) (p : Rd α) (j : Nat) (h1 : H) (sj : RS) (L : List α) (t : Tok) : Prop where
  to : RTo h b h1 sj
  got : Got (Rd.rep p j) s1 L sj
  len : L.length = j
  live : TLive h1 t j
  new : TNew h t
theorem RLoop.start {α : Type} {h h1 : H} {b : Nat} {s1 : RS} {p : Rd α} (a : RTo h b h1 s1) : RLoop h b s1 p 0 h1 s1 [] .full := ⟨a, Got.pure _ _, rfl, trivial, TNew.full _⟩
theorem RLoop.next {α : Type} {h h1 h2 h3 : H} {b : Nat} {s1 sj s' : RS} {p : Rd α} {j : Nat} {L : List α} {t t' : Tok} {a : α} (r : RLoop h b s1 p j h1 sj L t) (g : Got p sj a s') (to : RTo h b h2 s')
    (hl : TLive h3 t' (j + 1)) (hn : TNext h2 t t') (hf : HF h2 h3 (fun _ => False) (TOwn t)) : RLoop h b s1 p (j + 1) h3 s' (L ++ [a]) t' :=
  ⟨to.app r.new hf, r.got.bind (g.bind (Got.pure _ _)), by rw [List.length_append, r.len]; rfl, hl, r.new.next to.keep hn⟩

end Go.Proofs

/- The program's reader of footprints and steps. -/
namespace Go.Proofs
open Go Go.RowKit Go.Am

end Go.Proofs

/- Which classes there may be: the program's answer. -/
namespace Go.Proofs
open Go Go.RowKit Go.Am

end Go.Proofs

/- What is read as a class: plain laws. -/
namespace Go.Proofs
open Go Go.RowKit Go.Am

/-- All that is read is such. -/
def RdAll {α : Type} (p : Rd α) (Q : α → Prop) : Prop := ∀ l a l', (∀ w ∈ l, w < 18446744073709551616) → p l = some (a, l') → Q a
theorem RdAll.bind {α β : Type} {p : Rd α} {q : α → Rd β} {R : α → Prop} {Q : β → Prop} (hp : RdAll p R) (ho : RdOK p) (hq : ∀ a, R a → RdAll (q a) Q) : RdAll (p.bind q) Q := fun l b l' hw h => by
  simp only [Rd.bind, Option.bind_eq_some_iff] at h
  obtain ⟨⟨a, l1⟩, h1, h2⟩ := h
  exact hq a (hp l a l1 hw h1) l1 b l' (fun w hm => hw w ((ho l a l1 h1).2 w hm)) h2
theorem RdAll.pure {α : Type} {a : α} {Q : α → Prop} (h : Q a) : RdAll (Rd.pure a) Q := fun l b l' _ e => by
  simp only [Rd.pure, Option.some.injEq, Prod.mk.injEq] at e
  obtain ⟨rfl, _⟩ := e
  exact h
theorem RdAll.none {α : Type} {Q : α → Prop} : RdAll (Rd.none) Q := fun l b l' _ e => by cases e
theorem RdAll.rep {α : Type} {p : Rd α} {Q : α → Prop} (hp : RdAll p Q) (ho : RdOK p) : ∀ k, RdAll (Rd.rep p k) fun L => L.length = k ∧ ∀ a ∈ L, Q a
  | 0 => RdAll.pure ⟨rfl, fun a h => by cases h⟩
  | k + 1 => (RdAll.rep hp ho k).bind (ho.rep k) fun L ⟨h1, h2⟩ => hp.bind ho fun a ha => RdAll.pure ⟨by rw [List.length_append, h1]; rfl, fun x hx => by
    rcases List.mem_append.1 hx with h | h
    · exact h2 x h
    · rw [List.mem_singleton.1 h]; exact ha⟩
theorem rdCount_all (most : Int) : RdAll (rdCount most) fun n => 0 ≤ n ∧ n ≤ most := fun l a l' _ h => by
  cases l with
  | nil => cases h
  | cons w l =>
    simp only [rdCount] at h
    split at h
    · cases h; omega
    · cases h
theorem rdSigned_all : RdAll rdSigned inI := fun l a l' hw h => by
  cases l with
  | nil => cases h
  | cons w l =>
    simp only [rdSigned, Option.some.injEq, Prod.mk.injEq] at h
    obtain ⟨rfl, _⟩ := h
    exact backI_in (hw w (List.mem_cons_self ..))
theorem rdFlag_all : RdAll rdFlag fun _ => True := fun _ _ _ _ _ => trivial
theorem Got.all {α : Type} {p : Rd α} {Q : α → Prop} (hp : RdAll p Q) {s : RS} (hs : Bd s) {a : α} {l : List Nat} (h : Got p s a (some l)) : Q a := by
  unfold Got at h
  cases s with
  | none => simp at h
  | some l0 =>
    simp only [Option.bind_some] at h
    cases hq : p l0 with
    | none => rw [hq] at h; cases h
    | some x => rw [hq] at h; obtain ⟨rfl, _⟩ := h; exact hp l0 x.1 x.2 (hs l0 rfl).2 hq

end Go.Proofs

/- What is written of a class is read as that class: plain laws. -/
namespace Go.Proofs
open Go Go.RowKit Go.Am

/-- These words, whatever follows, are read as this. -/
def Back {α : Type} (p : Rd α) (ws : List Nat) (a : α) : Prop := ∀ rest, p (ws ++ rest) = some (a, rest)
theorem Back.bind {α β : Type} {p : Rd α} {q : α → Rd β} {w1 w2 : List Nat} {a : α} {b : β} (h1 : Back p w1 a) (h2 : Back (q a) w2 b) : Back (p.bind q) (w1 ++ w2) b := fun rest => by
  rw [Rd.bind, List.append_assoc, h1]; exact h2 rest
theorem Back.pure {α : Type} (a : α) : Back (Rd.pure a) [] a := fun rest => rfl
theorem Back.last {α β : Type} {p : Rd α} {q : α → Rd β} {w1 : List Nat} {a : α} {b : β} (h1 : Back p w1 a) (h2 : Back (q a) [] b) : Back (p.bind q) w1 b := by
  have := h1.bind h2
  rwa [List.append_nil] at this
theorem Back.count {n most : Int} (h0 : 0 ≤ n) (h1 : n ≤ most) : Back (rdCount most) [n.toNat] n := fun rest => by
  have e : ((n.toNat : Nat) : Int) = n := by omega
  simp only [List.cons_append, List.nil_append, rdCount]
  rw [if_pos ⟨by omega, by omega⟩, e]
theorem Back.signed (x : Int) : Back rdSigned [Proofs.signed x] x := fun rest => by simp [rdSigned, backI_signed]
theorem Back.rep {α : Type} {p : Rd α} {f : α → List Nat} {L : List α} (h : ∀ a ∈ L, Back p (f a) a) : Back (Rd.rep p L.length) (L.flatMap f) L := by
  have key : ∀ k, k ≤ L.length → Back (Rd.rep p k) ((L.take k).flatMap f) (L.take k) := fun k => by
    induction k with
    | zero => intro _; exact Back.pure _
    | succ k ih =>
      intro hk
      have hlt : k < L.length := by omega
      rw [flat_snoc f hlt, List.take_succ_eq_append_getElem hlt]
      exact (ih (by omega)).bind ((h _ (List.getElem_mem hlt)).last (Back.pure _))
  have := key L.length (Nat.le_refl _)
  rwa [List.take_length] at this

end Go.Proofs
