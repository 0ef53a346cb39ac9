/- What the functions that the statement reaches do: their contracts; and what follows of it. -/
import Derived.Test.YtaepkklbckgbhaaDoorK4
import Derived.Shelf.Strings.OnBuilder
import Derived.Test.YtaepkklbckgbhaaDoorProg
import Derived.Shelf.Strconv.Itoa4
/- Texts out of the library: what its own contracts say, over the ghost heap. -/
namespace Go.Am
open Go Go.RowKit Go.Lib

section
variable {P : Program} {base : Nat} {W : Nat → Prop} {w w' : World} {g : G} {h : H}
theorem Sim.below (hs : Sim P base W w g h) (hB : Below w.heap.size w w') : Sim P base W w' g h ∧ Ext base W w g w' g := by
  have hblk : ∀ B, B < w.heap.size → w'.heap[B]? = w.heap[B]? := fun B h => hB.block B h
  have e : GExt w g w' g := GExt.of_blk hB.size hblk hs.roB (fun _ _ => rfl) (Nat.le_refl _) (fun _ _ => ⟨rfl, rfl⟩) (Nat.le_refl _) (fun _ _ => rfl) (Nat.le_refl _) (fun _ _ => rfl) (Nat.le_refl _) (fun _ _ => rfl)
  exact ⟨hs.step e hB.size hblk rfl rfl rfl rfl rfl (fun _ _ => rfl) (fun B h => hs.roB B (Nat.le_trans hB.size h)), Ext.step hs e hB.os hB.tape hB.output hblk (fun _ _ => rfl)⟩

def JoinsAt (P : Program) (f : FuncId) : Prop := ∀ (bk o c : Nat) (xs : List ByteArray) (sep : ByteArray) (w : World),
  (∀ (j : Nat) x, xs[j]? = some x → w.cell? ⟨bk, o + j, none⟩ = some (.string x)) → bk < w.heap.size → xs.length ≤ 140737488355328 → xs.length ≤ c → (Lib.join (xs.map (·.data.toList)) sep.data.toList).length ≤ 140737488355328 →
    Calls P f #[.slice (some ⟨bk, o, none⟩) xs.length c, .string sep] w fun e w' => e = .returned (.string ⟨(Lib.join (xs.map (·.data.toList)) sep.data.toList).toArray⟩) ∧ Below w.heap.size w w'

theorem strs_flat : ∀ xs : List ByteArray, (xs.map fun x => [AV.str x]).flatten = xs.map AV.str
  | [] => rfl
  | x :: l => by rw [List.map_cons, List.flatten_cons, strs_flat l]; rfl
theorem args2 {Args : Array Value} (h : Args.size = 2) : Args = #[Args[0], Args[1]] := by
  apply Array.ext
  · simp; omega
  · intro i hi1 hi2
    have : i = 0 ∨ i = 1 := by simp at hi2; omega
    rcases this with rfl | rfl <;> simp
theorem args1 {Args : Array Value} (h : Args.size = 1) : Args = #[Args[0]] := by
  apply Array.ext
  · simp; omega
  · intro i hi1 hi2
    obtain rfl : i = 0 := by simp at hi2; omega
    simp

theorem join_call {f : FuncId} (hbody : HasBody P f) (hj : JoinsAt P f) (xs : List ByteArray) (sep : ByteArray) (h0 : 0 < xs.length) (hN : xs.length ≤ 1000) (hlen : (Lib.join (xs.map (·.data.toList)) sep.data.toList).length ≤ 140737488355328) :
    PCall P f [.sl .no (xs.map fun x => [.str x]), .str sep] (.str ⟨(Lib.join (xs.map (·.data.toList)) sep.data.toList).toArray⟩) := by
  intro h
  refine SCall.ro ⟨hbody, fun base W w g Args hs hA => ?_⟩ (.str _)
  obtain ⟨hAs, hAr⟩ := hA
  have h0' := hAr 0 (by simp)
  have h1' := hAr 1 (by simp)
  simp only [List.length_cons, List.length_nil] at hAs
  have hArgs := args2 (Args := Args) (by omega)
  generalize hA0 : Args[0] = A0 at h0' hArgs
  generalize hA1 : Args[1] = A1 at h1' hArgs
  subst hArgs
  clear hA0 hA1 hAs hAr
  simp only [List.getElem_cons_zero] at h0'
  simp only [List.getElem_cons_succ, List.getElem_cons_zero] at h1'
  obtain ⟨A, cap, z, Vs, rfl, hz, hez, hcap, hro, hrep, _, _⟩ := h0'.sl_inv
  rw [h1'.str_inv]
  have hfl := strs_flat xs
  have hfll : (xs.map fun x => [AV.str x]).flatten.length = xs.length := by rw [hfl, List.length_map]
  obtain ⟨B, o, hA, _, hc0⟩ := hro 0 (by omega)
  subst hA
  have hcells : ∀ (j : Nat) x, xs[j]? = some x → w.cell? ⟨B, o + j, none⟩ = some (.string x) := fun j x hx => by
    obtain ⟨hj, rfl⟩ := List.getElem?_eq_some_iff.1 hx
    obtain ⟨B', o', e, _, hc⟩ := hro j (by omega)
    cases e
    have hr := hrep j (by omega)
    have e2 : (xs.map fun x => [AV.str x]).flatten[j]'(by omega) = .str xs[j] := by simp only [hfl, List.getElem_map]
    rw [e2] at hr
    rw [hc, hr.str_inv]
  have hbk : B < w.heap.size := by
    simp only [World.cell?] at hc0
    by_cases hlt : B < w.heap.size
    · exact hlt
    · rw [Array.getElem?_eq_none (by omega)] at hc0
      cases hc0
  rw [List.length_map] at hcap ⊢
  refine (hj B o cap xs sep w hcells hbk (by omega) hcap hlen).mono ?_
  rintro e w' ⟨rfl, hB⟩
  obtain ⟨hs1, he1⟩ := hs.below hB
  exact ⟨_, g, .str _, h, rfl, .str _, hs1, he1, rfl, HF.refl _ _ _⟩

theorem num_call {f : FuncId} (hbody : HasBody P f) {s : ByteArray} (i : Nat) (hj : ∀ w, Calls P f #[.int .i64 i] w fun e w' => e = .returned (.string s) ∧ w' = w) : PCall P f [.int .i64 i] (.str s) := by
  intro h
  refine SCall.ro ⟨hbody, fun base W w g Args hs hA => ?_⟩ (.str _)
  obtain ⟨hAs, hAr⟩ := hA
  have h0' := hAr 0 (by simp)
  simp only [List.length_cons, List.length_nil] at hAs
  have hArgs := args1 (Args := Args) (by omega)
  generalize hA0 : Args[0] = A0 at h0' hArgs
  subst hArgs
  clear hA0 hAs hAr
  simp only [List.getElem_cons_zero] at h0'
  rw [h0'.int_inv]
  refine (hj w).mono ?_
  rintro e w' ⟨rfl, rfl⟩
  exact ⟨_, g, .str _, h, rfl, .str _, hs, Ext.refl base W _ g, rfl, HF.refl _ _ _⟩
theorem num2_call {f : FuncId} (hbody : HasBody P f) {s : ByteArray} (i j : Nat) (hj : ∀ w, Calls P f #[.int .i64 i, .int .i64 j] w fun e w' => e = .returned (.string s) ∧ w' = w) : PCall P f [.int .i64 i, .int .i64 j] (.str s) := by
  intro h
  refine SCall.ro ⟨hbody, fun base W w g Args hs hA => ?_⟩ (.str _)
  obtain ⟨hAs, hAr⟩ := hA
  have h0' := hAr 0 (by simp)
  have h1' := hAr 1 (by simp)
  simp only [List.length_cons, List.length_nil] at hAs
  have hArgs := args2 (Args := Args) (by omega)
  generalize hA0 : Args[0] = A0 at h0' hArgs
  generalize hA1 : Args[1] = A1 at h1' hArgs
  subst hArgs
  clear hA0 hA1 hAs hAr
  simp only [List.getElem_cons_zero] at h0'
  simp only [List.getElem_cons_succ, List.getElem_cons_zero] at h1'
  rw [h0'.int_inv, h1'.int_inv]
  refine (hj w).mono ?_
  rintro e w' ⟨rfl, rfl⟩
  exact ⟨_, g, .str _, h, rfl, .str _, hs, Ext.refl base W _ g, rfl, HF.refl _ _ _⟩
end
end Go.Am

/- Texts: the library's own contracts for strings.Join and for the text of a short number, laid at the program. PRINTED in its first part by laystr.py, a program of this work. -/
namespace Go.Proofs
open Go Go.RowKit Go.Am Go.Lib Go.Shelf

def joinL_ren : Go.Shelf.Ren := ⟨fun | 156 => 67 | 165 => 74 | 166 => 75 | 169 => 76 | 240 => 82 | 241 => 83 | 276 => 86 | 277 => 87 | n => n, fun | 31 => 99 | 9 => 9 | 3 => 3 | 4 => 4 | 0 => 0 | 20 => 20 | 72 => 111 | 76 => 114 | 70 => 109 | 37 => 102 | 75 => 113 | 127 => 122 | 164 => 124 | 5 => 5 | 80 => 116 | n => n, fun n => n⟩
set_option maxRecDepth 100000 in
set_option maxHeartbeats 4000000 in
theorem joinL : Lays.n156 Tryd.prog joinL_ren where
  mixed := by kernel_rfl
  f156 := Tryd.func67.trans (congrArg some (by kernel_rfl))
  f165 := Tryd.func74.trans (congrArg some (by kernel_rfl))
  f166 := Tryd.func75.trans (congrArg some (by kernel_rfl))
  f169 := Tryd.func76.trans (congrArg some (by kernel_rfl))
  f240 := Tryd.func82.trans (congrArg some (by kernel_rfl))
  f241 := Tryd.func83.trans (congrArg some (by kernel_rfl))
  f276 := Tryd.func86.trans (congrArg some (by kernel_rfl))
  f277 := Tryd.func87.trans (congrArg some (by kernel_rfl))
  t0 := Tryd.underlying0
  a0 := Tryd.isAgg0
  z0 := Tryd.sizeOf0
  v0 := Tryd.zeroValue0
  t3 := Tryd.underlying3
  a3 := Tryd.isAgg3
  z3 := Tryd.sizeOf3
  v3 := Tryd.zeroValue3
  t4 := Tryd.underlying4
  a4 := Tryd.isAgg4
  z4 := Tryd.sizeOf4
  v4 := Tryd.zeroValue4
  t9 := Tryd.underlying9
  a9 := Tryd.isAgg9
  z9 := Tryd.sizeOf9
  v9 := Tryd.zeroValue9
  t20 := Tryd.underlying20
  a20 := Tryd.isAgg20
  z20 := Tryd.sizeOf20
  v20 := Tryd.zeroValue20
  t31 := Tryd.underlying99
  a31 := Tryd.isAgg99
  z31 := Tryd.sizeOf99
  v31 := Tryd.zeroValue99
  t37 := Tryd.underlying102
  a37 := Tryd.isAgg102
  z37 := Tryd.sizeOf102
  v37 := Tryd.zeroValue102
  t70 := Tryd.underlying109
  a70 := Tryd.isAgg109
  z70 := Tryd.sizeOf109
  v70 := Tryd.zeroValue109
  t72 := Tryd.underlying111
  a72 := Tryd.isAgg111
  z72 := Tryd.sizeOf111
  v72 := Tryd.zeroValue111
  t75 := Tryd.underlying113
  a75 := Tryd.isAgg113
  z75 := Tryd.sizeOf113
  v75 := Tryd.zeroValue113
  t76 := Tryd.underlying114
  a76 := Tryd.isAgg114
  z76 := Tryd.sizeOf114
  v76 := Tryd.zeroValue114
  t127 := Tryd.underlying122
  a127 := Tryd.isAgg122
  z127 := Tryd.sizeOf122
  v127 := Tryd.zeroValue122
  t164 := Tryd.underlying124
  a164 := Tryd.isAgg124
  z164 := Tryd.sizeOf124
  v164 := Tryd.zeroValue124

def itoaL_ren : Go.Shelf.Ren := ⟨fun | 171 => 47 | 243 => 65 | 246 => 66 | 283 => 70 | 284 => 71 | 285 => 72 | 286 => 73 | 129 => 78 | 317 => 77 | 318 => 79 | 319 => 80 | 320 => 81 | 337 => 84 | 338 => 85 | n => n, fun | 3 => 3 | 9 => 9 | 2 => 2 | 4 => 4 | 171 => 104 | 0 => 0 | 53 => 77 | 37 => 102 | 5 => 5 | 173 => 107 | 212 => 118 | 51 => 119 | 20 => 20 | 213 => 120 | 46 => 86 | 232 => 127 | 233 => 128 | n => n, fun | 17 => 0 | 18 => 1 | 19 => 2 | n => n⟩
set_option maxRecDepth 100000 in
set_option maxHeartbeats 4000000 in
theorem itoaL : Lays.n171 Tryd.prog itoaL_ren where
  mixed := by kernel_rfl
  f129 := Tryd.func78.trans (congrArg some (by kernel_rfl))
  f171 := Tryd.func47.trans (congrArg some (by kernel_rfl))
  f243 := Tryd.func65.trans (congrArg some (by kernel_rfl))
  f246 := Tryd.func66.trans (congrArg some (by kernel_rfl))
  f283 := Tryd.func70.trans (congrArg some (by kernel_rfl))
  f284 := Tryd.func71.trans (congrArg some (by kernel_rfl))
  f285 := Tryd.func72.trans (congrArg some (by kernel_rfl))
  f286 := Tryd.func73.trans (congrArg some (by kernel_rfl))
  f317 := Tryd.func77.trans (congrArg some (by kernel_rfl))
  f318 := Tryd.func79.trans (congrArg some (by kernel_rfl))
  f319 := Tryd.func80.trans (congrArg some (by kernel_rfl))
  f320 := Tryd.func81.trans (congrArg some (by kernel_rfl))
  f337 := Tryd.func84.trans (congrArg some (by kernel_rfl))
  f338 := Tryd.func85.trans (congrArg some (by kernel_rfl))
  t0 := Tryd.underlying0
  a0 := Tryd.isAgg0
  z0 := Tryd.sizeOf0
  v0 := Tryd.zeroValue0
  t2 := Tryd.underlying2
  a2 := Tryd.isAgg2
  z2 := Tryd.sizeOf2
  v2 := Tryd.zeroValue2
  t3 := Tryd.underlying3
  a3 := Tryd.isAgg3
  z3 := Tryd.sizeOf3
  v3 := Tryd.zeroValue3
  t4 := Tryd.underlying4
  a4 := Tryd.isAgg4
  z4 := Tryd.sizeOf4
  v4 := Tryd.zeroValue4
  t5 := Tryd.underlying5
  a5 := Tryd.isAgg5
  z5 := Tryd.sizeOf5
  v5 := Tryd.zeroValue5
  t9 := Tryd.underlying9
  a9 := Tryd.isAgg9
  z9 := Tryd.sizeOf9
  v9 := Tryd.zeroValue9
  t20 := Tryd.underlying20
  a20 := Tryd.isAgg20
  z20 := Tryd.sizeOf20
  v20 := Tryd.zeroValue20
  t37 := Tryd.underlying102
  a37 := Tryd.isAgg102
  z37 := Tryd.sizeOf102
  v37 := Tryd.zeroValue102
  t46 := Tryd.underlying86
  a46 := Tryd.isAgg86
  z46 := Tryd.sizeOf86
  v46 := Tryd.zeroValue86
  t51 := Tryd.underlying119
  a51 := Tryd.isAgg119
  z51 := Tryd.sizeOf119
  v51 := Tryd.zeroValue119
  t53 := Tryd.underlying77
  a53 := Tryd.isAgg77
  z53 := Tryd.sizeOf77
  v53 := Tryd.zeroValue77
  t171 := Tryd.underlying104
  a171 := Tryd.isAgg104
  z171 := Tryd.sizeOf104
  v171 := Tryd.zeroValue104
  t173 := Tryd.underlying107
  a173 := Tryd.isAgg107
  z173 := Tryd.sizeOf107
  v173 := Tryd.zeroValue107
  t212 := Tryd.underlying118
  a212 := Tryd.isAgg118
  z212 := Tryd.sizeOf118
  v212 := Tryd.zeroValue118
  t213 := Tryd.underlying120
  a213 := Tryd.isAgg120
  z213 := Tryd.sizeOf120
  t232 := Tryd.underlying127
  a232 := Tryd.isAgg127
  z232 := Tryd.sizeOf127
  v232 := Tryd.zeroValue127
  t233 := Tryd.underlying128
  a233 := Tryd.isAgg128
  z233 := Tryd.sizeOf128
  v233 := Tryd.zeroValue128
  g17 := by kernel_rfl
  g18 := by kernel_rfl
  g19 := by kernel_rfl

def fmtL_ren : Go.Shelf.Ren := ⟨fun | 173 => 48 | 246 => 66 | 283 => 70 | 284 => 71 | 285 => 72 | 286 => 73 | 129 => 78 | 317 => 77 | 318 => 79 | 319 => 80 | 320 => 81 | 337 => 84 | 338 => 85 | n => n, fun | 2 => 2 | 3 => 3 | 9 => 9 | 4 => 4 | 171 => 104 | 0 => 0 | 53 => 77 | 37 => 102 | 5 => 5 | 173 => 107 | 212 => 118 | 51 => 119 | 20 => 20 | 213 => 120 | 46 => 86 | 232 => 127 | 233 => 128 | n => n, fun | 17 => 0 | 18 => 1 | 19 => 2 | n => n⟩
set_option maxRecDepth 100000 in
set_option maxHeartbeats 4000000 in
theorem fmtL : Lays.n173 Tryd.prog fmtL_ren where
  mixed := by kernel_rfl
  f129 := Tryd.func78.trans (congrArg some (by kernel_rfl))
  f173 := Tryd.func48.trans (congrArg some (by kernel_rfl))
  f246 := Tryd.func66.trans (congrArg some (by kernel_rfl))
  f283 := Tryd.func70.trans (congrArg some (by kernel_rfl))
  f284 := Tryd.func71.trans (congrArg some (by kernel_rfl))
  f285 := Tryd.func72.trans (congrArg some (by kernel_rfl))
  f286 := Tryd.func73.trans (congrArg some (by kernel_rfl))
  f317 := Tryd.func77.trans (congrArg some (by kernel_rfl))
  f318 := Tryd.func79.trans (congrArg some (by kernel_rfl))
  f319 := Tryd.func80.trans (congrArg some (by kernel_rfl))
  f320 := Tryd.func81.trans (congrArg some (by kernel_rfl))
  f337 := Tryd.func84.trans (congrArg some (by kernel_rfl))
  f338 := Tryd.func85.trans (congrArg some (by kernel_rfl))
  t0 := Tryd.underlying0
  a0 := Tryd.isAgg0
  z0 := Tryd.sizeOf0
  v0 := Tryd.zeroValue0
  t2 := Tryd.underlying2
  a2 := Tryd.isAgg2
  z2 := Tryd.sizeOf2
  v2 := Tryd.zeroValue2
  t3 := Tryd.underlying3
  a3 := Tryd.isAgg3
  z3 := Tryd.sizeOf3
  v3 := Tryd.zeroValue3
  t4 := Tryd.underlying4
  a4 := Tryd.isAgg4
  z4 := Tryd.sizeOf4
  v4 := Tryd.zeroValue4
  t5 := Tryd.underlying5
  a5 := Tryd.isAgg5
  z5 := Tryd.sizeOf5
  v5 := Tryd.zeroValue5
  t9 := Tryd.underlying9
  a9 := Tryd.isAgg9
  z9 := Tryd.sizeOf9
  v9 := Tryd.zeroValue9
  t20 := Tryd.underlying20
  a20 := Tryd.isAgg20
  z20 := Tryd.sizeOf20
  v20 := Tryd.zeroValue20
  t37 := Tryd.underlying102
  a37 := Tryd.isAgg102
  z37 := Tryd.sizeOf102
  v37 := Tryd.zeroValue102
  t46 := Tryd.underlying86
  a46 := Tryd.isAgg86
  z46 := Tryd.sizeOf86
  v46 := Tryd.zeroValue86
  t51 := Tryd.underlying119
  a51 := Tryd.isAgg119
  z51 := Tryd.sizeOf119
  v51 := Tryd.zeroValue119
  t53 := Tryd.underlying77
  a53 := Tryd.isAgg77
  z53 := Tryd.sizeOf77
  v53 := Tryd.zeroValue77
  t171 := Tryd.underlying104
  a171 := Tryd.isAgg104
  z171 := Tryd.sizeOf104
  v171 := Tryd.zeroValue104
  t173 := Tryd.underlying107
  a173 := Tryd.isAgg107
  z173 := Tryd.sizeOf107
  v173 := Tryd.zeroValue107
  t212 := Tryd.underlying118
  a212 := Tryd.isAgg118
  z212 := Tryd.sizeOf118
  v212 := Tryd.zeroValue118
  t213 := Tryd.underlying120
  a213 := Tryd.isAgg120
  z213 := Tryd.sizeOf120
  t232 := Tryd.underlying127
  a232 := Tryd.isAgg127
  z232 := Tryd.sizeOf127
  v232 := Tryd.zeroValue127
  t233 := Tryd.underlying128
  a233 := Tryd.isAgg128
  z233 := Tryd.sizeOf128
  v233 := Tryd.zeroValue128
  g17 := by kernel_rfl
  g18 := by kernel_rfl
  g19 := by kernel_rfl

theorem joinX : Builder.Extra Tryd.prog joinL_ren where
  sizeBuilder := by kernel_rfl
  liesBuilder := by kernel_rfl
  t5 := Tryd.underlying5
  a5 := Tryd.isAgg5
  z5 := Tryd.sizeOf5
  v5 := Tryd.zeroValue5
  infoByte := by kernel_rfl
  cellsByte := by kernel_rfl
  sizeByte := by kernel_rfl
  neB5 := by decide

theorem Tryd.hbJoin : HasBody Tryd.prog 67 := ⟨_, Tryd.func67, by kernel_rfl, by kernel_rfl⟩
theorem Tryd.hbItoa : HasBody Tryd.prog 47 := ⟨_, Tryd.func47, by kernel_rfl, by kernel_rfl⟩
theorem Tryd.hbFormat : HasBody Tryd.prog 48 := ⟨_, Tryd.func48, by kernel_rfl, by kernel_rfl⟩
theorem Tryd.joinsAt : JoinsAt Tryd.prog 67 := fun bk o c xs sep w hcells hbk hN hcap hlen => Any.strings_Join joinL joinX bk o c xs sep w hcells hbk hN hcap hlen
theorem Tryd.itoaAt : ∀ (i : Nat) (w : World), i < 100 → Calls Tryd.prog 47 #[.int .i64 i] w fun e w' => e = .returned (.string ⟨(Lib.decDigits i).toArray⟩) ∧ w' = w := fun i w hi => Any.strconv_Itoa_small itoaL i hi w
theorem Tryd.formatAt : ∀ (i : Nat) (w : World), i < 100 → Calls Tryd.prog 48 #[.int .i64 i, .int .i64 10] w fun e w' => e = .returned (.string ⟨(Lib.decDigits i).toArray⟩) ∧ w' = w := fun i w hi => Any.strconv_FormatInt_10_small fmtL i hi w
end Go.Proofs

/- Sets of keys, as spans: plain lists, plainly; no program in sight. -/
namespace Go.Proofs
open Go Go.RowKit Go.Am

abbrev Sp := Int × Int
def mayS (s : Sp) : Bool := decide (0 ≤ s.1) && decide (s.1 ≤ s.2) && decide (s.2 ≤ 999)
def inS (s : Sp) (k : Int) : Bool := mayS s && decide (s.1 ≤ k) && decide (k ≤ s.2)
def hasK (l : List Sp) (k : Int) : Bool := l.any fun s => inS s k
def isPlain (l : List Sp) : Prop := (∀ s ∈ l, mayS s = true) ∧ l.Pairwise fun s t => s.2 + 1 < t.1

theorem mayS_iff {s : Sp} : mayS s = true ↔ 0 ≤ s.1 ∧ s.1 ≤ s.2 ∧ s.2 ≤ 999 := by
  simp only [mayS, Bool.and_eq_true, decide_eq_true_eq, and_assoc]
theorem inS_iff {s : Sp} {k : Int} : inS s k = true ↔ mayS s = true ∧ s.1 ≤ k ∧ k ≤ s.2 := by
  simp only [inS, Bool.and_eq_true, decide_eq_true_eq, and_assoc]
theorem hasK_iff {l : List Sp} {k : Int} : hasK l k = true ↔ ∃ s ∈ l, mayS s = true ∧ s.1 ≤ k ∧ k ≤ s.2 := by
  simp only [hasK, List.any_eq_true, inS_iff]
theorem hasK_nil (k : Int) : hasK [] k = false := rfl
theorem hasK_cons (s : Sp) (l : List Sp) (k : Int) : hasK (s :: l) k = (inS s k || hasK l k) := rfl
theorem hasK_app (l m : List Sp) (k : Int) : hasK (l ++ m) k = (hasK l k || hasK m k) := by simp [hasK]
theorem hasK_range {l : List Sp} {k : Int} (h : hasK l k = true) : 0 ≤ k ∧ k ≤ 999 := by
  obtain ⟨s, _, h1, h2, h3⟩ := hasK_iff.1 h
  have := mayS_iff.1 h1
  omega
theorem hasK_perm {l m : List Sp} (h : l.Perm m) (k : Int) : hasK l k = hasK m k := by
  rw [Bool.eq_iff_iff, hasK_iff, hasK_iff]
  exact ⟨fun ⟨s, q1, q2⟩ => ⟨s, h.mem_iff.1 q1, q2⟩, fun ⟨s, q1, q2⟩ => ⟨s, h.mem_iff.2 q1, q2⟩⟩
theorem hasK_filter (l : List Sp) (k : Int) : hasK (l.filter mayS) k = hasK l k := by
  rw [Bool.eq_iff_iff, hasK_iff, hasK_iff]
  exact ⟨fun ⟨s, q1, q2⟩ => ⟨s, (List.mem_filter.1 q1).1, q2⟩, fun ⟨s, q1, q2⟩ => ⟨s, List.mem_filter.2 ⟨q1, q2.1⟩, q2⟩⟩

theorem isPlain_cons {s : Sp} {l : List Sp} : isPlain (s :: l) ↔ mayS s = true ∧ (∀ t ∈ l, s.2 + 1 < t.1) ∧ isPlain l := by
  simp only [isPlain, List.mem_cons, forall_eq_or_imp, List.pairwise_cons]
  exact ⟨fun ⟨⟨a, b⟩, c, d⟩ => ⟨a, c, b, d⟩, fun ⟨a, c, b, d⟩ => ⟨⟨a, b⟩, c, d⟩⟩

theorem plain_low {s : Sp} {l : List Sp} (h : isPlain (s :: l)) {k : Int} (hk : hasK (s :: l) k = true) : s.1 ≤ k := by
  obtain ⟨h1, h2, h3⟩ := isPlain_cons.1 h
  obtain ⟨t, q1, q2, q3, q4⟩ := hasK_iff.1 hk
  have := mayS_iff.1 h1
  rcases List.mem_cons.1 q1 with rfl | q1
  · exact q3
  · have := h2 t q1; omega
theorem plain_head {s : Sp} {l : List Sp} (h : isPlain (s :: l)) : hasK (s :: l) s.1 = true := by
  obtain ⟨h1, _, _⟩ := isPlain_cons.1 h
  have := mayS_iff.1 h1
  exact hasK_iff.2 ⟨s, by simp, h1, by omega, by omega⟩
theorem plain_gap {s : Sp} {l : List Sp} (h : isPlain (s :: l)) {k : Int} (hk : hasK (s :: l) k = true) : k ≤ s.2 ∨ s.2 + 1 < k := by
  obtain ⟨h1, h2, h3⟩ := isPlain_cons.1 h
  obtain ⟨t, q1, q2, q3, q4⟩ := hasK_iff.1 hk
  rcases List.mem_cons.1 q1 with rfl | q1
  · exact .inl q4
  · have := h2 t q1; exact .inr (by omega)
theorem plain_tail {s : Sp} {l : List Sp} (h : isPlain (s :: l)) (k : Int) : hasK l k = (hasK (s :: l) k && decide (s.2 < k)) := by
  obtain ⟨h1, h2, h3⟩ := isPlain_cons.1 h
  rw [hasK_cons]
  by_cases hk : s.2 < k
  · have : inS s k = false := by
      rw [Bool.eq_false_iff]; intro e
      have := inS_iff.1 e; omega
    rw [this]; simp [hk]
  · have : hasK l k = false := by
      rw [Bool.eq_false_iff]; intro e
      obtain ⟨t, q1, _, q3, _⟩ := hasK_iff.1 e
      have := h2 t q1; omega
    rw [this]; simp [hk]

theorem plain_unique : ∀ {l m : List Sp}, isPlain l → isPlain m → (∀ k, hasK l k = hasK m k) → l = m
  | [], [], _, _, _ => rfl
  | [], t :: m, _, hm, h => by have := plain_head hm; rw [← h] at this; cases this
  | s :: l, [], hl, _, h => by have := plain_head hl; rw [h] at this; cases this
  | s :: l, t :: m, hl, hm, h => by
    have a1 := plain_low hm (by rw [← h]; exact plain_head hl)
    have a2 := plain_low hl (by rw [h]; exact plain_head hm)
    have ms := mayS_iff.1 (isPlain_cons.1 hl).1
    have mt := mayS_iff.1 (isPlain_cons.1 hm).1
    have b1 : s.2 ≤ t.2 := by
      have : hasK (s :: l) s.2 = true := hasK_iff.2 ⟨s, by simp, (isPlain_cons.1 hl).1, by omega, by omega⟩
      have g := fun k (hk : hasK (s :: l) k = true) => plain_gap hm (by rw [← h]; exact hk)
      by_cases hlt : s.2 ≤ t.2
      · exact hlt
      · exfalso
        have := g (t.2 + 1) (hasK_iff.2 ⟨s, by simp, (isPlain_cons.1 hl).1, by omega, by omega⟩)
        omega
    have b2 : t.2 ≤ s.2 := by
      have g := fun k (hk : hasK (t :: m) k = true) => plain_gap hl (by rw [h]; exact hk)
      by_cases hlt : t.2 ≤ s.2
      · exact hlt
      · exfalso
        have := g (s.2 + 1) (hasK_iff.2 ⟨t, by simp, (isPlain_cons.1 hm).1, by omega, by omega⟩)
        omega
    have e : s = t := Prod.ext (by omega) (by omega)
    subst e
    rw [plain_unique (isPlain_cons.1 hl).2.2 (isPlain_cons.1 hm).2.2 fun k => by rw [plain_tail hl, plain_tail hm, h]]

/-! ### The plain list of a set -/
def extL (l : List Sp) (k : Int) : List Sp :=
  match l.getLast? with
  | some t => l.dropLast ++ [(t.1, k)]
  | none => []
def plainTo (f : Nat → Bool) : Nat → List Sp
  | 0 => []
  | k + 1 => if f k then (if 0 < k ∧ f (k - 1) = true then extL (plainTo f k) k else plainTo f k ++ [((k : Int), (k : Int))]) else plainTo f k
def plainOf (f : Nat → Bool) : List Sp := plainTo f 1000

theorem extL_snoc (o : List Sp) (t : Sp) (k : Int) : extL (o ++ [t]) k = o ++ [(t.1, k)] := by
  simp [extL]

def setOf (f : Nat → Bool) (n : Nat) (k : Int) : Bool := decide (0 ≤ k) && decide (k < n) && f k.toNat
theorem setOf_iff {f : Nat → Bool} {n : Nat} {k : Int} : setOf f n k = true ↔ 0 ≤ k ∧ k < n ∧ f k.toNat = true := by
  simp only [setOf, Bool.and_eq_true, decide_eq_true_eq, and_assoc]

theorem isPlain_snoc {o : List Sp} {t : Sp} : isPlain (o ++ [t]) ↔ isPlain o ∧ mayS t = true ∧ ∀ s ∈ o, s.2 + 1 < t.1 := by
  simp only [isPlain, List.mem_append, List.mem_singleton, List.pairwise_append, List.pairwise_singleton, true_and]
  constructor
  · rintro ⟨h1, h2, h3⟩
    exact ⟨⟨fun s hs => h1 s (.inl hs), h2⟩, h1 t (.inr rfl), fun s hs => h3 s hs t rfl⟩
  · rintro ⟨⟨h1, h2⟩, h3, h4⟩
    refine ⟨fun s hs => ?_, h2, fun s hs u hu => ?_⟩
    · rcases hs with hs | rfl
      · exact h1 s hs
      · exact h3
    · rw [hu]; exact h4 s hs

/-- What the plain list of a set is, as far as n. -/
theorem plainTo_ok (f : Nat → Bool) : ∀ n, n ≤ 1000 → isPlain (plainTo f n) ∧ (∀ k, hasK (plainTo f n) k = setOf f n k) ∧ (∀ s ∈ plainTo f n, s.2 < n) ∧
    (if 0 < n ∧ f (n - 1) = true then ∃ o t, plainTo f n = o ++ [t] ∧ t.2 = (n : Int) - 1 else ∀ s ∈ plainTo f n, s.2 + 1 < n)
  | 0, _ => ⟨⟨fun s hs => (by cases hs), List.Pairwise.nil⟩, fun k => by
      rw [show hasK (plainTo f 0) k = false from rfl]
      symm; rw [Bool.eq_false_iff]; intro e; have := setOf_iff.1 e; omega, fun s hs => (by cases hs), by
      rw [if_neg (by omega)]; intro s hs; cases hs⟩
  | n + 1, hn => by
    obtain ⟨h1, h2, h3, h4⟩ := plainTo_ok f n (by omega)
    have hset : ∀ k, setOf f (n + 1) k = (setOf f n k || (decide (k = n) && f n)) := fun k => by
      rw [Bool.eq_iff_iff, setOf_iff, Bool.or_eq_true, setOf_iff, Bool.and_eq_true, decide_eq_true_eq]
      constructor
      · rintro ⟨a, b, c⟩
        by_cases hk : k = n
        · subst hk; exact .inr ⟨rfl, by simpa using c⟩
        · exact .inl ⟨a, by omega, c⟩
      · rintro (⟨a, b, c⟩ | ⟨rfl, c⟩)
        · exact ⟨a, by omega, c⟩
        · exact ⟨by omega, by omega, by simpa using c⟩
    by_cases hf : f n = true
    · by_cases hp : 0 < n ∧ f (n - 1) = true
      · rw [if_pos hp] at h4
        obtain ⟨o, t, e, ht⟩ := h4
        have e2 : plainTo f (n + 1) = o ++ [(t.1, (n : Int))] := by
          show (if f n = true then _ else _) = _
          rw [if_pos hf, if_pos hp, e, extL_snoc]
        rw [e] at h1 h2 h3
        obtain ⟨p1, p2, p3⟩ := isPlain_snoc.1 h1
        have mt := mayS_iff.1 p2
        have mt' : mayS (t.1, (n : Int)) = true := mayS_iff.2 ⟨mt.1, by simp only; omega, by simp only; omega⟩
        rw [e2]
        refine ⟨isPlain_snoc.2 ⟨p1, mt', p3⟩, fun k => ?_, fun s hs => ?_, ?_⟩
        · rw [hset, ← h2, hasK_app, hasK_app, Bool.or_assoc]
          congr 1
          rw [Bool.eq_iff_iff, hasK_cons, hasK_cons, hasK_nil, Bool.or_false, Bool.or_false, inS_iff, Bool.or_eq_true, inS_iff, Bool.and_eq_true, decide_eq_true_eq]
          constructor
          · rintro ⟨_, a, b⟩
            simp only at a b
            by_cases hk : k = n
            · exact .inr ⟨hk, hf⟩
            · exact .inl ⟨p2, a, by omega⟩
          · rintro (⟨_, a, b⟩ | ⟨rfl, _⟩)
            · exact ⟨mt', a, by simp only; omega⟩
            · exact ⟨mt', by simp only; omega, by simp only; omega⟩
        · rcases List.mem_append.1 hs with hs | hs
          · have := h3 s (by simp [hs]); omega
          · rw [List.mem_singleton.1 hs]; simp only; omega
        · rw [if_pos ⟨by omega, by simpa using hf⟩]
          exact ⟨o, _, rfl, by simp⟩
      · rw [if_neg hp] at h4
        have e2 : plainTo f (n + 1) = plainTo f n ++ [((n : Int), (n : Int))] := by
          show (if f n = true then _ else _) = _
          rw [if_pos hf, if_neg hp]
        have mt' : mayS ((n : Int), (n : Int)) = true := mayS_iff.2 ⟨by simp only; omega, by simp only; omega, by simp only; omega⟩
        rw [e2]
        refine ⟨isPlain_snoc.2 ⟨h1, mt', fun s hs => by simpa using h4 s hs⟩, fun k => ?_, fun s hs => ?_, ?_⟩
        · rw [hset, hasK_app, h2]
          congr 1
          rw [Bool.eq_iff_iff, hasK_cons, hasK_nil, Bool.or_false, inS_iff, Bool.and_eq_true, decide_eq_true_eq]
          exact ⟨fun ⟨_, a, b⟩ => ⟨by simp only at a b; omega, hf⟩, fun ⟨a, _⟩ => ⟨mt', by simp only; omega, by simp only; omega⟩⟩
        · rcases List.mem_append.1 hs with hs | hs
          · have := h3 s hs; omega
          · rw [List.mem_singleton.1 hs]; simp only; omega
        · rw [if_pos ⟨by omega, by simpa using hf⟩]
          exact ⟨_, _, rfl, by simp⟩
    · have e2 : plainTo f (n + 1) = plainTo f n := by
        show (if f n = true then _ else _) = _
        rw [if_neg hf]
      rw [e2]
      refine ⟨h1, fun k => ?_, fun s hs => by have := h3 s hs; omega, ?_⟩
      · rw [hset, h2]
        simp [hf]
      · rw [if_neg (by simp [hf])]
        intro s hs
        have := h3 s hs
        omega

theorem plainOf_isPlain (f : Nat → Bool) : isPlain (plainOf f) := (plainTo_ok f 1000 (Nat.le_refl _)).1
theorem plainOf_has (f : Nat → Bool) (k : Int) : hasK (plainOf f) k = setOf f 1000 k := (plainTo_ok f 1000 (Nat.le_refl _)).2.1 k
theorem hasK_nat {l : List Sp} (k : Nat) : setOf (fun k => hasK l k) 1000 k = hasK l k := by
  rw [Bool.eq_iff_iff, setOf_iff]
  constructor
  · rintro ⟨_, _, h⟩; simpa using h
  · intro h; have := hasK_range h; exact ⟨by omega, by omega, by simpa using h⟩
theorem plainOf_of {l : List Sp} (h : isPlain l) {f : Nat → Bool} (hf : ∀ k, k < 1000 → hasK l (k : Nat) = f k) : l = plainOf f := by
  refine plain_unique h (plainOf_isPlain f) fun k => ?_
  rw [plainOf_has, Bool.eq_iff_iff, setOf_iff]
  constructor
  · intro hk
    have := hasK_range hk
    have e : ((k.toNat : Nat) : Int) = k := by omega
    exact ⟨by omega, by omega, by rw [← hf _ (by omega), e]; exact hk⟩
  · rintro ⟨a, b, c⟩
    have e : ((k.toNat : Nat) : Int) = k := by omega
    rw [← hf _ (by omega), e] at c; exact c
theorem plainOf_congr {f g : Nat → Bool} (h : ∀ k, k < 1000 → f k = g k) : plainOf f = plainOf g := by
  refine plainOf_of (plainOf_isPlain f) fun k hk => ?_
  rw [plainOf_has, ← h k hk, Bool.eq_iff_iff, setOf_iff]
  exact ⟨fun h => by simpa using h.2.2, fun h => ⟨by omega, by omega, by simpa using h⟩⟩
theorem plainOf_get (f : Nat → Bool) {k : Nat} (hk : k < 1000) : hasK (plainOf f) k = f k := by
  rw [plainOf_has, Bool.eq_iff_iff, setOf_iff]
  exact ⟨fun h => by simpa using h.2.2, fun h => ⟨by omega, by omega, by simpa using h⟩⟩
theorem plainOf_inj {f g : Nat → Bool} (h : plainOf f = plainOf g) {k : Nat} (hk : k < 1000) : f k = g k := by
  rw [← plainOf_get f hk, h, plainOf_get g hk]

/-- The plain list of spans. -/
def plainL (l : List Sp) : List Sp := plainOf fun k => hasK l k
theorem plainL_has (l : List Sp) (k : Int) : hasK (plainL l) k = hasK l k := by
  by_cases h : hasK l k = true
  · have := hasK_range h
    have e : ((k.toNat : Nat) : Int) = k := by omega
    rw [← e]; exact plainOf_get _ (by omega)
  · by_cases h2 : hasK (plainL l) k = true
    · have := hasK_range h2
      have e : ((k.toNat : Nat) : Int) = k := by omega
      have q := plainOf_get (fun k => hasK l k) (k := k.toNat) (by omega)
      rw [e] at q
      exact q
    · simp only [Bool.not_eq_true] at h h2; rw [h, h2]
theorem plainL_of {l m : List Sp} (h : isPlain m) (hm : ∀ k, hasK m k = hasK l k) : m = plainL l := plainOf_of h fun k _ => hm k
theorem plainL_plain {l : List Sp} (h : isPlain l) : plainL l = l := (plainL_of h fun _ => rfl).symm

/-! ### How the program makes it: sorted spans, one by one -/
def mrg1 (out : List Sp) (s : Sp) : List Sp :=
  match out.getLast? with
  | some t => if s.1 ≤ t.2 + 1 then out.dropLast ++ [(t.1, max t.2 s.2)] else out ++ [s]
  | none => [s]
def mrg (l : List Sp) : List Sp := l.foldl mrg1 []
theorem mrg_snoc (l : List Sp) (s : Sp) : mrg (l ++ [s]) = mrg1 (mrg l) s := by simp [mrg]
theorem mrg1_snoc (o : List Sp) (t s : Sp) : mrg1 (o ++ [t]) s = if s.1 ≤ t.2 + 1 then o ++ [(t.1, max t.2 s.2)] else o ++ [t] ++ [s] := by
  simp [mrg1]

theorem mrg_ok : ∀ n (l : List Sp), l.length = n → (∀ s ∈ l, mayS s = true) → (l.Pairwise fun x y => x.1 ≤ y.1) → isPlain (mrg l) ∧ (∀ k, hasK (mrg l) k = hasK l k) ∧ (∀ t ∈ mrg l, ∃ s ∈ l, t.1 = s.1)
  | 0, l, hl, _, _ => by
    have : l = [] := List.length_eq_zero_iff.1 hl
    subst this
    exact ⟨⟨fun s hs => (by cases hs), List.Pairwise.nil⟩, fun k => rfl, fun s hs => (by cases hs)⟩
  | n + 1, l, hl, hm, hp => by
    obtain ⟨l', s, rfl⟩ : ∃ l' s, l = l' ++ [s] := by
      have h0 : l ≠ [] := fun e => by rw [e] at hl; cases hl
      exact ⟨l.dropLast, l.getLast h0, (List.dropLast_concat_getLast h0).symm⟩
    obtain ⟨hp1, _, hp2⟩ := List.pairwise_append.1 hp
    have hl' : l'.length = n := by simpa using hl
    obtain ⟨i1, i2, i3⟩ := mrg_ok n l' hl' (fun x hx => hm x (by simp [hx])) hp1
    have ms := mayS_iff.1 (hm s (by simp))
    have hs : ∀ k, hasK [s] k = inS s k := fun k => by rw [hasK_cons, hasK_nil, Bool.or_false]
    rw [mrg_snoc]
    rcases List.eq_nil_or_concat (mrg l') with e | ⟨o, t, e⟩
    · rw [e] at i1 i2 i3 ⊢
      refine ⟨⟨fun x hx => by rw [List.mem_singleton.1 hx]; exact hm s (by simp), List.pairwise_singleton _ _⟩, fun k => ?_, fun x hx => ⟨s, by simp, by rw [List.mem_singleton.1 hx]⟩⟩
      rw [hasK_app, ← i2, hasK_nil, Bool.false_or]; rfl
    · rw [List.concat_eq_append] at e
      rw [e] at i1 i2 i3 ⊢
      rw [mrg1_snoc]
      obtain ⟨p1, p2, p3⟩ := isPlain_snoc.1 i1
      have mt := mayS_iff.1 p2
      obtain ⟨u, hu, htu⟩ := i3 t (by simp)
      have hts : t.1 ≤ s.1 := by rw [htu]; exact hp2 u hu s (by simp)
      by_cases hlt : s.1 ≤ t.2 + 1
      · rw [if_pos hlt]
        have mt' : mayS (t.1, max t.2 s.2) = true := mayS_iff.2 ⟨mt.1, by simp only; omega, by simp only; omega⟩
        refine ⟨isPlain_snoc.2 ⟨p1, mt', p3⟩, fun k => ?_, fun x hx => ?_⟩
        · rw [hasK_app l' [s], ← i2, hasK_app, hasK_app, Bool.or_assoc]
          congr 1
          rw [hasK_cons, hasK_cons, hasK_nil, Bool.or_false, Bool.or_false, hs, Bool.eq_iff_iff, Bool.or_eq_true, inS_iff, inS_iff, inS_iff]
          constructor
          · rintro ⟨_, a, b⟩
            simp only at a b
            by_cases hk : k ≤ t.2
            · exact .inl ⟨p2, a, hk⟩
            · exact .inr ⟨hm s (by simp), by omega, by omega⟩
          · rintro (⟨_, a, b⟩ | ⟨_, a, b⟩)
            · exact ⟨mt', a, by simp only; omega⟩
            · exact ⟨mt', by simp only; omega, by simp only; omega⟩
        · rcases List.mem_append.1 hx with hx | hx
          · obtain ⟨v, hv, e⟩ := i3 x (by simp [hx]); exact ⟨v, by simp [hv], e⟩
          · rw [List.mem_singleton.1 hx]; exact ⟨u, by simp [hu], htu⟩
      · rw [if_neg hlt]
        refine ⟨isPlain_snoc.2 ⟨i1, hm s (by simp), fun x hx => ?_⟩, fun k => ?_, fun x hx => ?_⟩
        · rcases List.mem_append.1 hx with hx | hx
          · have := p3 x hx; omega
          · rw [List.mem_singleton.1 hx]; omega
        · rw [hasK_app _ [s], hasK_app l' [s], i2]
        · rcases List.mem_append.1 hx with hx | hx
          · obtain ⟨v, hv, e⟩ := i3 x hx; exact ⟨v, by simp [hv], e⟩
          · rw [List.mem_singleton.1 hx]; exact ⟨s, by simp, rfl⟩

/-- What the program makes of spans, by whatever sort. -/
theorem mrg_plain {l l' : List Sp} (hp : l'.Perm (l.filter mayS)) (hs : l'.Pairwise fun x y => x.1 ≤ y.1) : mrg l' = plainL l := by
  obtain ⟨h1, h2, _⟩ := mrg_ok _ l' rfl (fun s hs => (List.mem_filter.1 (hp.mem_iff.1 hs)).2) hs
  exact plainL_of h1 fun k => by rw [h2, hasK_perm hp, hasK_filter]

end Go.Proofs
