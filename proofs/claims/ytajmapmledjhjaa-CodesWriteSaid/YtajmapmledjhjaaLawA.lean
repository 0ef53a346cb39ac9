/- The statement CodesWrite: its function hands back true for every input, and the input reads behind the call as it did. -/
import Derived.Test.YtajmapmledjhjaaSpecI
import Derived.Test.YtajmapmledjhjaaAmX
import Derived.Test.YtajmapmledjhjaaRows
import Derived.WalkKit
import Derived.ProofKit
import Derived.OpenShut
import Derived.ShutString
import Derived.ChangeOld
import Derived.Below
import Derived.Carry
namespace Go.Proofs.Ytajmapmledjhjaa
open Go.ChangeShapes Go.WideShapes Go.ChangeAt Go.RowKit Go.Am Go.Proofs
set_option linter.unusedVariables false

theorem own : ownKnob Try.prog.godebug = none := by kernel_rfl
theorem laidOut : laidOutB Try.prog = true := by kernel_rfl

theorem wf_i64 {n : Int} (h : (Lit.int .i64 n).wf = true) : inI n := by
  simp [Lit.wf, IntKind.min, IntKind.max, IntKind.signed, IntKind.bits] at h
  exact ⟨by omega, by omega⟩
theorem wf_u64 {n : Int} (h : (Lit.int .u64 n).wf = true) : 0 ≤ n := by
  simp [Lit.wf, IntKind.min, IntKind.max, IntKind.signed, IntKind.bits] at h
  omega

theorem item_of {vs : List AV} (h : isL [.int .i64, .int .i64, .int .i64, .int .i64, .str, .sl [.int .u64]] vs) : ∃ x : Item, vs = encI x ∧ inI x.n ∧ inI x.x := by
  simp only [isL, Sh.is] at h
  obtain ⟨_, _, rfl, ⟨k, rfl, _⟩, _, _, rfl, ⟨n, rfl, hn⟩, _, _, rfl, ⟨m, rfl, _⟩, _, _, rfl, ⟨x, rfl, hx⟩, _, _, rfl, ⟨s, rfl, _⟩, _, _, rfl, ⟨es, rfl, hel, hes⟩, rfl⟩ := h
  have : ∃ l : List Nat, es = l.map w64 := by
    clear hn hx hel
    induction es with
    | nil => exact ⟨[], rfl⟩
    | cons e es ih =>
      obtain ⟨l, rfl⟩ := ih fun e he => hes e (List.mem_cons_of_mem _ he)
      obtain ⟨_, _, rfl, ⟨y, rfl, hy⟩, rfl⟩ := hes e (List.mem_cons_self ..)
      have := wf_u64 hy
      exact ⟨y.toNat :: l, by simp [w64]; omega⟩
  obtain ⟨l, rfl⟩ := this
  exact ⟨⟨k, n, m, x, s, l⟩, rfl, wf_i64 hn, wf_i64 hx⟩

theorem items_of {es : List (List AV)} (h : ∀ e ∈ es, isL [.int .i64, .int .i64, .int .i64, .int .i64, .str, .sl [.int .u64]] e) : ∃ l : List Item, es = l.map encI ∧ ∀ x ∈ l, inI x.n ∧ inI x.x := by
  induction es with
  | nil => exact ⟨[], rfl, fun x hx => by cases hx⟩
  | cons e es ih =>
    obtain ⟨l, rfl, hl⟩ := ih fun e he => h e (List.mem_cons_of_mem _ he)
    obtain ⟨x, rfl, hx⟩ := item_of (h e (List.mem_cons_self ..))
    exact ⟨x :: l, rfl, fun y hy => by
      rcases List.mem_cons.1 hy with rfl | hy
      · exact hx
      · exact hl y hy⟩

set_option maxRecDepth 100000 in
theorem lifted (os : Os) (started : os.Started) (H : Type) (enc : TypeId × Value → H) :
    ReturnsInHanded {} Try.checked os 3 .any (Rows.codesWriteSpec.pre6 enc Try.prog Try.f3 Rows.codesWriteRow.domain false) (Rows.codesWriteSpec.post enc Try.prog Try.f3 false true false false) := by
  refine returnsInHanded_of_change (C := Try.checked) own started (by kernel_rfl) Try.func3
    (ChangeSpec.witness6 (enc := enc) (C := Try.checked) false ⟨#[], #[.slice none 0 0], []⟩ 8 (by kernel_rfl) (by kernel_rfl) (by kernel_rfl) (by kernel_rfl)) ?_
  intro W base args ds gs before hval0 hW hcnd _
  have hval : ∀ (j : Nat) t v, Try.f3.params[j]? = some t → args[j]? = some v → Value.okWide Try.prog W .any base t v := hval0
  have hW' := hW
  obtain ⟨p, q, hA0, hV, rfl, hfz, hnd⟩ := hW
  have hA : DataW.TrodAll enc Try.prog W 0 (fun _ => true) true Try.f3.params.toList args.toList ds p := hA0
  rw [Try.params3] at hA hval
  obtain ⟨v0, vs0, d0, ds0, p0, q0, hargs, rfl, rfl, h0, r0⟩ := trodAll_cons hA
  obtain ⟨rfl, rfl, rfl⟩ := trodAll_nil r0
  obtain rfl : args = #[v0] := by cases args; simp_all
  obtain ⟨rfl, rfl⟩ := trodVars_none hV
  obtain ⟨a0, len0, cap0, rfl⟩ := okWide_slice Try.underlying22 (hval 0 22 v0 rfl rfl)
  have k0 := h0
  have lt0 : ∀ x ∈ p0, x.block < W.heap.size := by obtain ⟨m, hm⟩ := k0; exact DataW.trod_lt m _ _ _ hm
  obtain ⟨a, hs, hr⟩ := ent_one (d := 9) h0 (by kernel_rfl : shT Try.prog 9 22 = some [.sl [.int .i64, .int .i64, .int .i64, .int .i64, .str, .sl [.int .u64]]]) rfl
  simp only [Sh.is] at hs
  obtain ⟨es, rfl, hlen, hes⟩ := hs
  obtain ⟨l, rfl, hl⟩ := items_of hes
  have hb : l.length ≤ 9223372036854775807 := by
    rw [List.length_map] at hlen
    exact hlen
  clear hA0 hval0
  refine (law_run (codesWrite_ok l hb hl) (RepA.one hr)).mono fun e W' ⟨he, bel⟩ => ?_
  subst he
  exact ⟨_, rfl, _, _, _, [], _, [], hW', trodAll_mk1 (shut_bool Try.underlying4 _), (trodAll_cons_mk (Below.trod laidOut (by kernel_rfl) (of_decide_eq_true (by kernel_rfl)) k0 bel lt0) trodAll_mk0), rfl, bel.frame _, fun h => by cases h⟩

theorem over : Rows.codesWriteRow.holds Try.pinned (OpenSpec.ofChange Rows.codesWriteSpec) :=
  OpenClaim.holds_of_wide 3 Try.f3 rfl rfl rfl rfl rfl rfl rfl ⟨rfl, rfl, rfl, rfl, rfl⟩ rfl rfl rfl rfl rfl (by kernel_rfl) Try.func3 (by kernel_rfl)
    (of_decide_eq_true (by kernel_rfl)) (by unfold Func.isWrapper; first | (rw [if_pos (by decide +kernel)]; kernel_rfl) | (rw [if_neg (by decide +kernel)]; exact ⟨rfl, rfl⟩))
    (fun os started H enc _ => lifted os started H enc)

theorem proved : Rows.CodesWriteSaid := over
end Go.Proofs.Ytajmapmledjhjaa
