/- A frame's run is sound. -/
import Derived.Test.YtajmapmledjhjaaAmP
import Derived.RangeFuncIn
namespace Go.Am
open Go Go.RowKit
section
variable {P : Program} {base : Nat} {W : Nat → Prop}

theorem Came.mono_todo {N : Nat} {b : Frame} {cs : List Frame} {m : Machine} {a : Act} {w : World} {g : G} {r : Res} {s' : Slots} {h' : H} (h : Came P base W N b cs m a w g r s' h') : Came P base W N b cs m a w g r s' h' := h

theorem setObj_at (w : World) (B : Nat) (o : Obj) {o' : Obj} (h : w.heap[B]? = some o') :
    ({ w with heap := w.heap.setIfInBounds B o } : World).heap[B]? = some o ∧ ({ w with heap := w.heap.setIfInBounds B o } : World).heap.size = w.heap.size ∧ ∀ B', B' ≠ B → ({ w with heap := w.heap.setIfInBounds B o } : World).heap[B']? = w.heap[B']? := by
  have hlt := heap_lt h
  refine ⟨?_, by simp, fun B' hB' => ?_⟩
  · simp [hlt]
  · simp only [Array.getElem?_setIfInBounds]
    rw [if_neg (fun h => hB' h.symm)]

theorem run_getLoop {w : World} {B : Nat} {L : Loop} (h : w.heap[B]? = some (.loop L)) : (Instr.getLoop B).run P w = .ok L w := by
  simp only [Instr.getLoop, getObj, Sem.run_bind, Sem.run, h, Result.andThen_ok]
  rfl

theorem run_setObjLoop {w : World} {B : Nat} {L L' : Loop} (h : w.heap[B]? = some (.loop L)) : (setObj B (.loop L')).run P w = .ok () { w with heap := w.heap.setIfInBounds B (.loop L') } := by
  simp only [setObj, Sem.run, h]

theorem krun_sound {inr : Bool} {N : Nat} {k : List It} {s : Slots} {h : H} {r : Res} {s' : Slots} {h' : H} (hk : KRun P inr k s h r s' h') :
    ∀ {b : Frame} {a : Act} {w : World} {g : G} {todo : List Item} {cs : List Frame}, (inr = false → b.roundOf = none) → KRel P N g b k todo → Sim P base W w g h → RepS w g s a.tmps → a.tmps.size = N →
      Came P base W N b cs (lone (b.atR a todo) cs w) a w g r s' h' := by
  induction hk with
  | done s h =>
    intro b a w g todo cs hb hrel hs hr hN
    cases todo with
    | nil => exact ⟨a, w, g, [], [], .refl _ _, rfl, hr, hN, rfl, ⟨by simp, by simp⟩, fun _ => rfl, hs, Ext.refl base W w g⟩
    | cons x t => exact hrel.elim
  | skip _ ih =>
    intro b a w g todo cs hb hrel hs hr hN
    cases todo with
    | nil => exact hrel.elim
    | cons x t =>
      cases x with
      | code c =>
        obtain ⟨hc, hrel⟩ := hrel
        rcases cCode_inv hc with rfl | ⟨l, rfl⟩
        · exact (ih hb hrel hs hr hN).of (.one stepR_skip) rfl (Ext.refl base W w g)
        · exact (ih hb hrel hs hr hN).of (.one stepR_label) rfl (Ext.refl base W w g)
      | _ => exact hrel.elim
  | seq _ ih =>
    intro b a w g todo cs hb hrel hs hr hN
    cases todo with
    | nil => exact hrel.elim
    | cons x t =>
      cases x with
      | code c =>
        obtain ⟨hc, hrel⟩ := hrel
        obtain ⟨x, y, rfl, hx, hy⟩ := cCode_inv hc
        exact (ih (todo := .code x :: .code y :: t) hb ⟨hx, hy, hrel⟩ hs hr hN).of (.one stepR_seq) rfl (Ext.refl base W w g)
      | _ => exact hrel.elim
  | @cond c x y t k s h r s' h' hev _ ih =>
    intro b a w g todo cs hb hrel hs hr hN
    cases todo with
    | nil => exact hrel.elim
    | cons z tl =>
      cases z with
      | code c0 =>
        obtain ⟨hc, hrel⟩ := hrel
        obtain ⟨q, x', y', rfl, hq, hx, hy⟩ := cCode_inv hc
        have hcv := ev_rep hr hq
        rw [hev] at hcv
        have hcv' := hcv.bool_inv
        refine (ih (todo := .code (if t then x' else y') :: tl) hb ⟨?_, hrel⟩ hs hr hN).of (.one (stepR_cond hcv')) rfl (Ext.refl base W w g)
        cases t
        · exact hy
        · exact hx
      | _ => exact hrel.elim
  | @condU c x y k s h r s1 s2 s' h' hev _ _ hw1 hw2 ih1 ih2 =>
    intro b a w g todo cs hb hrel hs hr hN
    cases todo with
    | nil => exact hrel.elim
    | cons z tl =>
      cases z with
      | code c0 =>
        obtain ⟨hc, hrel⟩ := hrel
        obtain ⟨q, x', y', rfl, hq, hx, hy⟩ := cCode_inv hc
        have hcv := ev_rep hr hq
        rw [hev] at hcv
        obtain ⟨t, hcv'⟩ : ∃ t, a.eval q = .bool t := by
          generalize a.eval q = V at hcv
          cases hcv with
          | ubool t => exact ⟨t, rfl⟩
        have hforget : ∀ {m : Machine} {s1 : Slots}, (∀ t, s' t = s1 t ∨ s' t = .undef) → Came P base W N b cs m a w g r s1 h' → Came P base W N b cs m a w g r s' h' := fun hw hcame => by
          obtain ⟨a', w', g', todo', rs, q1, q2, q3, q4, q5, q6, q7, q8, q9⟩ := hcame
          refine ⟨a', w', g', todo', rs, q1, q2, fun t => ?_, q4, q5, q6, q7, q8, q9⟩
          rcases hw t with h | h
          · rw [h]; exact q3 t
          · rw [h]; exact .undef _
        cases t
        · exact hforget hw2 ((ih2 (todo := .code y' :: tl) hb ⟨hy, hrel⟩ hs hr hN).of (.one (stepR_cond hcv')) rfl (Ext.refl base W w g))
        · exact hforget hw1 ((ih1 (todo := .code x' :: tl) hb ⟨hx, hrel⟩ hs hr hN).of (.one (stepR_cond hcv')) rfl (Ext.refl base W w g))
      | _ => exact hrel.elim
  | blk _ ih =>
    intro b a w g todo cs hb hrel hs hr hN
    cases todo with
    | nil => exact hrel.elim
    | cons z tl =>
      cases z with
      | code c0 =>
        obtain ⟨hc, hrel⟩ := hrel
        obtain ⟨x, rfl, hx⟩ := cCode_inv hc
        exact (ih (todo := .code x :: .inBlock _ :: tl) hb ⟨hx, rfl, hrel⟩ hs hr hN).of (.one stepR_block) rfl (Ext.refl base W w g)
      | _ => exact hrel.elim
  | blkEnd _ ih =>
    intro b a w g todo cs hb hrel hs hr hN
    cases todo with
    | nil => exact hrel.elim
    | cons z tl =>
      cases z with
      | inBlock id' => exact (ih hb hrel.2 hs hr hN).of (.one stepR_inBlock) rfl (Ext.refl base W w g)
      | _ => exact hrel.elim
  | loop _ ih =>
    intro b a w g todo cs hb hrel hs hr hN
    cases todo with
    | nil => exact hrel.elim
    | cons z tl =>
      cases z with
      | code c0 =>
        obtain ⟨hc, hrel⟩ := hrel
        obtain ⟨x, rfl, hx⟩ := cCode_inv hc
        exact (ih (todo := .code x :: .inLoop x :: tl) hb ⟨hx, hx, hrel⟩ hs hr hN).of (.one stepR_loop) rfl (Ext.refl base W w g)
      | _ => exact hrel.elim
  | lp _ ih =>
    intro b a w g todo cs hb hrel hs hr hN
    cases todo with
    | nil => exact hrel.elim
    | cons z tl =>
      cases z with
      | inLoop x => exact (ih (todo := .code x :: .inLoop x :: tl) hb ⟨hrel.1, hrel.1, hrel.2⟩ hs hr hN).of (.one stepR_inLoop) rfl (Ext.refl base W w g)
      | _ => exact hrel.elim
  | exit hex _ ih =>
    intro b a w g todo cs hb hrel hs hr hN
    cases todo with
    | nil => exact hrel.elim
    | cons z tl =>
      cases z with
      | code c0 =>
        obtain ⟨hc, hrel⟩ := hrel
        have hh := cCode_inv hc
        simp only at hh
        subst hh
        obtain ⟨t', ht', hrel'⟩ := (KRel.exit hrel).1 _ hex
        exact (ih hb hrel' hs hr hN).of (.one (stepR_exit ht')) rfl (Ext.refl base W w g)
      | _ => exact hrel.elim
  | exitOut hex =>
    intro b a w g todo cs hb hrel hs hr hN
    cases todo with
    | nil => exact hrel.elim
    | cons z tl =>
      cases z with
      | code c0 =>
        obtain ⟨hc, hrel⟩ := hrel
        have hh := cCode_inv hc
        simp only at hh
        subst hh
        exact ⟨a, w, g, _, [], .refl _ _, ⟨tl, rfl, (KRel.exit hrel).2 hex⟩, hr, hN, rfl, ⟨by simp, by simp⟩, fun _ => rfl, hs, Ext.refl base W w g⟩
      | _ => exact hrel.elim
  | ret =>
    intro b a w g todo cs hb hrel hs hr hN
    cases todo with
    | nil => exact hrel.elim
    | cons z tl =>
      cases z with
      | code c0 =>
        obtain ⟨hc, hrel⟩ := hrel
        have hh := cCode_inv hc
        simp only at hh
        subst hh
        exact ⟨a, w, g, _, [], .refl _ _, ⟨tl, rfl⟩, hr, hN, rfl, ⟨by simp, by simp⟩, fun _ => rfl, hs, Ext.refl base W w g⟩
      | _ => exact hrel.elim
  | reg hops _ ih =>
    intro b a w g todo cs hb hrel hs hr hN
    cases todo with
    | nil => exact hrel.elim
    | cons z tl =>
      cases z with
      | code c0 =>
        obtain ⟨hc, hrel⟩ := hrel
        obtain ⟨id, ops, rfl, hins⟩ := cCode_inv hc
        have hat := InsAt_range (P := P) (N := N) (ops := ops) ops.toList _ 0 hins (fun i o ho => by simpa using ho)
        rw [Array.length_toList, ← List.range_eq_range'] at hat
        obtain ⟨a1, w1, g1, q1, q2, q3, q4, q5, q6⟩ := ops_sound (b := b) (k := tl) (cs := cs) hat hops hs hr hN
        exact (ih hb (KRel.mono q6.toGExt hrel) q5 q2 q3).of (.head stepR_region q1) q4 q6
      | _ => exact hrel.elim
  | dreg hops _ ih =>
    intro b a w g todo cs hb hrel hs hr hN
    cases todo with
    | nil => exact hrel.elim
    | cons z tl =>
      cases z with
      | code c0 =>
        obtain ⟨hc, hrel⟩ := hrel
        obtain ⟨id, ops, rfl, hins, rfl, hok⟩ := cCode_inv hc
        have htopo := schedule_topo ops hok (P.follows .mixedOrders) (w.tape w.drawn (.order b.fn id))
        have hlen := cInsL_len _ _ hins
        have hsz : ops.toList.length = ops.size := by simp
        rw [hsz] at hlen
        obtain ⟨xs, hxs, hat⟩ := pick_at hins _ htopo.lt
        have hopsx := hops _ (by rw [hlen]; exact htopo) xs hxs
        obtain ⟨hsD, heD⟩ := hs.drew
        obtain ⟨a1, w1, g1, q1, q2, q3, q4, q5, q6⟩ := ops_sound (b := b) (k := tl) (cs := cs) hat hopsx hsD (hr.mono heD.toGExt) hN
        exact (ih hb (KRel.mono (heD.trans q6).toGExt hrel) q5 q2 q3).of (.head stepR_region_draw q1) q4 (heD.trans q6)
      | _ => exact hrel.elim
  | @beg l q k s h r s' h' hl hq hst _ ih =>
    intro b a w g todo cs hb hrel hs hr hN
    cases todo with
    | nil => exact hrel.elim
    | cons z tl =>
      cases z with
      | beginRound =>
        obtain ⟨hl', hro, hrel⟩ := hrel
        obtain ⟨_, L, hL, hLok⟩ := hs.loop l q hl hq
        have hLst : L.state = .ready := hLok.st.trans hst
        obtain ⟨p1, p2, p3⟩ := setObj_at w (g.lp l) (.loop { L with state := .busy }) hL
        obtain ⟨hS, hE⟩ := hs.setLoop hl hq (L' := { L with state := .busy }) (r' := some { q with st := .busy }) (fun q' hq' => by
          cases hq'
          exact ⟨hLok.asg, hLok.body, hLok.tmps, hLok.params, hLok.plt, rfl, hLok.pend⟩) p1 p2 p3 rfl rfl rfl
        have hrun : (Instr.beginRound (g.lp l)).run P w = .ok () { w with heap := w.heap.setIfInBounds (g.lp l) (.loop { L with state := .busy }) } := by
          simp only [Instr.beginRound, Sem.run_bind, run_getLoop hL, Result.andThen_ok, run_setObjLoop hL, hLst, Sem.run_pure]
        exact (ih hb (KRel.mono hE.toGExt hrel) hS (hr.mono hE.toGExt) hN).of (.one (stepR_beginRound hro hrun)) rfl hE
      | _ => exact hrel.elim
  | @rngf f ps x y k s h F first caps v h2 q r s' h' hin hev hcall hlt hq hnb _ ih =>
    intro b a w g todo cs hb hrel hs hr hN
    cases todo with
    | nil => exact hrel.elim
    | cons z tl =>
      cases z with
      | code c0 =>
        obtain ⟨hc, hrel⟩ := hrel
        obtain ⟨fo, qs, xc, yc, rfl, hfo, rfl, hps, hx, hy⟩ := cCode_inv hc
        have hro := hb hin
        -- the iterator's value
        have hF := ev_rep hr hfo
        rw [hev] at hF
        obtain ⟨Fi, Ca, hX, hFi, hCa⟩ : ∃ Fi Ca, a.eval fo = .func (.func F) Fi Ca ∧ RepA w g first Fi ∧ RepA w g caps Ca := by
          generalize a.eval fo = X at hF
          cases hF with
          | fn f first caps Fi Ca h1 h2 h3 h4 => exact ⟨Fi, Ca, rfl, ⟨h1, h3⟩, ⟨h2, h4⟩⟩
        -- the record is laid
        obtain ⟨hs1, he1⟩ := hs.allocObj (.deferred (some []))
        have hr1 := hr.mono he1.toGExt
        let L : Loop := { state := .ready, pending := none, fn := b.fn, tmps := a.tmps, params := qs, assign := xc, body := yc, defers := w.heap.size }
        obtain ⟨hs2, he2⟩ := hs1.allocLoop L ⟨s, qs.toList, x, y, .ready, none⟩ ⟨by show cCode P a.tmps.size xc = _; rw [hN]; exact hx, by show cCode P a.tmps.size yc = _; rw [hN]; exact hy, hr1, rfl, fun p hp => by show p < a.tmps.size; rw [hN]; exact hps p hp, rfl, trivial⟩
        have he12 := he1.trans he2
        have hsz1 : (w.alloc (.deferred (some []))).heap.size = w.heap.size + 1 := by simp
        have henter : (Instr.enterLoop b.fn a.tmps qs xc yc b.roundOf).run P w = .ok (w.heap.size + 1, [markOf w.heap.size]) ((w.alloc (.deferred (some []))).alloc (.loop L)) := by
          rw [hro]
          simp only [Instr.enterLoop, Sem.run_bind, run_newObj, Result.andThen_ok, Sem.run_pure]
          simp only [Array.size_push]
          rfl
        have hyl : (g.newLoop (w.heap.size + 1)).lp h.ln = w.heap.size + 1 := by
          show (if h.ln = g.ln then _ else _) = _
          rw [if_pos hs.ln]
        rw [hsz1] at hs2 he2 he12
        have hA : RepA ((w.alloc (.deferred (some []))).alloc (.loop L)) (g.newLoop (w.heap.size + 1)) (first ++ [.yld h.ln] ++ caps) (Fi ++ #[.func (.yield (w.heap.size + 1)) #[] #[]] ++ Ca) := by
          refine RepA.app (RepA.app (hFi.mono he12.toGExt) ⟨rfl, fun k hk => ?_⟩) (hCa.mono he12.toGExt)
          have hk0 : k = 0 := by simp at hk; omega
          subst hk0
          have := Rep.yld (w := (w.alloc (.deferred (some []))).alloc (.loop L)) (g := g.newLoop (w.heap.size + 1)) h.ln (by show h.ln < g.ln + 1; rw [hs.ln]; omega)
          rw [hyl] at this
          exact this
        obtain ⟨⟨fn, hfn, hbody⟩, hcalls⟩ := hcall
        have hcalls := hcalls base W _ _ _ hs2 hA
        have hres : (resolve a.eval (rangeCall fo (w.heap.size + 1)) 0).run P ((w.alloc (.deferred (some []))).alloc (.loop L)) = .ok { target := .fn (.func F) Ca, args := Fi ++ #[.func (.yield (w.heap.size + 1)) #[] #[]] } ((w.alloc (.deferred (some []))).alloc (.loop L)) := by
          have hev1 : a.eval (.const (.func (.yield (w.heap.size + 1)) #[] #[])) = .func (.yield (w.heap.size + 1)) #[] #[] := rfl
          simp only [resolve, hX, Deferred.ofValue, Sem.run_pure]
          simp [hev1]
        have hinv : (invoke (.fn (.func F) Ca) (Fi ++ #[.func (.yield (w.heap.size + 1)) #[] #[]])).run P ((w.alloc (.deferred (some []))).alloc (.loop L)) = .ok (.enter F (Fi ++ #[.func (.yield (w.heap.size + 1)) #[] #[]] ++ Ca)) ((w.alloc (.deferred (some []))).alloc (.loop L)) := by
          simp only [invoke, callFunc, Sem.run_bind, run_program, Result.andThen_ok, hfn, hbody.1, hbody.2, Bool.false_eq_true, if_false]
          rfl
        have hst := stepR_rangeFunc (P := P) (b := b) (a := a) (k := tl) (cs := cs) (w := w) henter hres hinv
        obtain ⟨e, w3, fr, ⟨R, g3, rfl, s2, s3, s4⟩, hcomes, _, hleave⟩ := hcalls (b.atR { a with defers := [markOf w.heap.size] ++ a.defers } (.inRangeFunc (w.heap.size + 1) :: tl) :: cs)
        have hback := step_leave_returned (c := b.atR { a with defers := [markOf w.heap.size] ++ a.defers } (.inRangeFunc (w.heap.size + 1) :: tl)) (cs := cs) hleave
        rw [finish_atR_inRangeFunc] at hback
        -- the loop ends
        obtain ⟨_, L3, hL3, hLok⟩ := s3.loop h.ln q hlt hq
        have hlp3 : g3.lp h.ln = w.heap.size + 1 := by
          rw [s4.lp h.ln (by show h.ln < g.ln + 1; rw [hs.ln]; omega)]; exact hyl
        rw [hlp3] at hL3
        obtain ⟨p1, p2, p3⟩ := setObj_at w3 (w.heap.size + 1) (.loop { L3 with state := .exhausted }) hL3
        obtain ⟨hS4, hE4⟩ := s3.setLoop hlt hq (L' := { L3 with state := .exhausted }) (r' := none) (fun q' hq' => by cases hq') (by rw [hlp3]; exact p1) p2 (by rw [hlp3]; exact p3) rfl rfl rfl
        have hnb' : (L3.state == .busy) = false := by
          rw [hLok.st]
          cases hqs : q.st with
          | busy => exact absurd hqs hnb
          | _ => rfl
        have hend : (Instr.endLoop (w.heap.size + 1)).run P w3 = .ok L3.pending { w3 with heap := w3.heap.setIfInBounds (w.heap.size + 1) (.loop { L3 with state := .exhausted }) } := by
          simp only [Instr.endLoop, Sem.run_bind, run_getLoop hL3, Result.andThen_ok, hnb', Bool.false_eq_true, if_false, run_setObjLoop hL3, Sem.run_pure]
        have hst2 := stepR_endRangeFunc (P := P) (b := b) (a := { a with defers := [markOf w.heap.size] ++ a.defers }) (k := tl) (cs := cs) hend
        have heAll := (he12.trans s4).trans hE4
        have hrelJ : KRel P N g3 b (pendK q.pend ++ k) ((L3.pending.map Item.code).toList ++ tl) := by
          have hrel' := KRel.mono heAll.toGExt hrel
          have hp := hLok.pend
          cases hqp : q.pend with
          | none =>
            rw [hqp] at hp
            cases hLp : L3.pending with
            | none => simpa [pendK] using hrel'
            | some c => rw [hLp] at hp; exact hp.elim
          | some i =>
            rw [hqp] at hp
            cases hLp : L3.pending with
            | none => rw [hLp] at hp; cases i <;> exact hp.elim
            | some c =>
              rw [hLp] at hp
              cases i with
              | ret => cases c <;> first | exact hp.elim | exact ⟨rfl, hrel'⟩
              | exit id =>
                cases c with
                | exit id' =>
                  have : id = id' := hp
                  subst this
                  exact ⟨rfl, hrel'⟩
                | _ => exact hp.elim
              | _ => cases c <;> exact hp.elim
        obtain ⟨a', w', g', todo', rs, q1, q2, q3, q4, q5, q6, q7, q8, q9⟩ := ih (a := { a with defers := [markOf w.heap.size] ++ a.defers }) (cs := cs) hb hrelJ hS4 (hr.mono heAll.toGExt) hN
        have hsz3 : w.heap.size + 1 < w3.heap.size := heap_lt hL3
        refine ⟨a', w', g', todo', rs ++ [w.heap.size], .head hst (Steps.trans hcomes (.head hback (.head hst2 q1))), q2, q3, q4, by rw [q5]; simp, ⟨?_, ?_⟩, fun hne => absurd hro hne, q8, heAll.trans q9⟩
        · rw [List.nodup_append]
          refine ⟨q6.1, by simp, fun r1 hr1 r2 hr2 heq => ?_⟩
          have h1 := (q6.2 r1 hr1).1
          rw [List.mem_singleton] at hr2
          have hsz4 : w3.heap.size ≤ ({ w3 with heap := w3.heap.setIfInBounds (w.heap.size + 1) (.loop { L3 with state := .exhausted }) } : World).heap.size := by rw [p2]; exact Nat.le_refl _
          omega
        · intro r1 hr1
          rcases List.mem_append.1 hr1 with h1 | h1
          · have := q6.2 r1 h1
            have hsz4 : w3.heap.size ≤ ({ w3 with heap := w3.heap.setIfInBounds (w.heap.size + 1) (.loop { L3 with state := .exhausted }) } : World).heap.size := by rw [p2]; exact Nat.le_refl _
            exact ⟨by omega, this.2⟩
          · rw [List.mem_singleton] at h1
            subst h1
            refine ⟨Nat.le_refl _, ?_⟩
            exact ((he2.trans s4).trans hE4 |>.trans q9).obj _ _ alloc_new
      | _ => exact hrel.elim

end
end Go.Am
