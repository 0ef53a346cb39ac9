/- The orders in which a region may be carried out. -/
import Derived.Test.YtajmapmledjhjaaAmM
namespace Go.Am
open Go Go.RowKit

/-- An order that keeps these edges, 'done' having been carried out. -/
def TopoFrom (aft : List (List Nat)) : List Nat → List Nat → Prop
  | _, [] => True
  | done, i :: l => i ∉ done ∧ (∀ j ∈ aft.getD i [], j ∈ done) ∧ TopoFrom aft (i :: done) l

structure Topo (aft : List (List Nat)) (n : Nat) (l : List Nat) : Prop where
  order : TopoFrom aft [] l
  lt : ∀ i ∈ l, i < n
  all : ∀ i, i < n → i ∈ l

theorem pigeon : ∀ (n : Nat) (l : List Nat), l.Nodup → (∀ i ∈ l, i < n) → l.length = n → ∀ i, i < n → i ∈ l
  | 0, _, _, _, _, i, hi => by omega
  | n + 1, l, hnd, hlt, hlen, i, hi => by
    by_cases hn : n ∈ l
    · by_cases hin : i = n
      · rw [hin]; exact hn
      · have h1 : (l.erase n).length = n := by rw [List.length_erase_of_mem hn]; omega
        have h2 : (l.erase n).Nodup := hnd.erase n
        have h3 : ∀ j ∈ l.erase n, j < n := fun j hj => by
          have hjl := List.mem_of_mem_erase hj
          have := hlt j hjl
          have hne : j ≠ n := fun h => by
            subst h
            exact (List.Nodup.not_mem_erase hnd) hj
          omega
        exact List.mem_of_mem_erase (pigeon n (l.erase n) h2 h3 h1 i (by omega))
    · exfalso
      have h3 : ∀ j ∈ l, j < n := fun j hj => by
        have := hlt j hj
        have hne : j ≠ n := fun h => hn (h ▸ hj)
        omega
      match l, hlen with
      | a :: l', hlen =>
        have hnd' := List.nodup_cons.1 hnd
        have hl' : l'.length = n := by simpa using hlen
        have := pigeon n l' hnd'.2 (fun j hj => h3 j (List.mem_cons_of_mem _ hj)) hl' a (h3 a (List.mem_cons_self ..))
        exact hnd'.1 this

theorem cover : ∀ (n : Nat) (l : List Nat), (∀ i, i < n → i ∈ l) → n ≤ l.length
  | 0, _, _ => Nat.zero_le _
  | n + 1, l, h => by
    have hn := h n (by omega)
    have := cover n (l.erase n) (fun i hi => (List.mem_erase_of_ne (by omega)).2 (h i (by omega)))
    rw [List.length_erase_of_mem hn] at this
    have := List.length_pos_of_mem hn
    omega

def aftB (m : Region.Mode) (ops : Array Oper) : List (List Nat) := ops.toList.map fun o => (o.after.toList.filter (Region.binds m)).map (·.on)

/-- While not all are listed one is ready. -/
def Prog (m : Region.Mode) (ops : Array Oper) : Prop :=
  ∀ acc : List Nat, acc.Nodup → (∀ i ∈ acc, i < ops.size) → acc.length < ops.size → (∀ i ∈ acc, ∀ o, ops[i]? = some o → ∀ e ∈ o.after.toList, Region.binds m e = true → e.on ∈ acc) →
    ∃ i o, i < ops.size ∧ i ∉ acc ∧ ops[i]? = some o ∧ ∀ e ∈ o.after.toList, Region.binds m e = true → e.on ∈ acc

/-- What 'linearise' lists: each behind what it must stand behind. -/
theorem go_topo (m : Region.Mode) (ops : Array Oper) :
    ∀ (fuel t : Nat) (listed : Array Bool) (acc : List Nat), listed.size = ops.size → (∀ i, i < ops.size → (listed.getD i true = true ↔ i ∈ acc)) → acc.Nodup → (∀ i ∈ acc, i < ops.size) → acc.length + fuel = ops.size →
      (∀ i ∈ acc, ∀ o, ops[i]? = some o → ∀ e ∈ o.after.toList, Region.binds m e = true → e.on ∈ acc) →
      ∃ l, Region.linearise.go m ops fuel t listed acc = acc.reverse ++ l ∧ TopoFrom (aftB m ops) acc l ∧ (acc.reverse ++ l).Nodup ∧ (∀ i ∈ l, i < ops.size) ∧ (Prog m ops → acc.length + l.length = ops.size)
  | 0, t, listed, acc, _, _, hnd, _, hlen, _ => ⟨[], by simp [Region.linearise.go], trivial, by rw [List.append_nil]; exact (List.reverse_perm acc).nodup_iff.2 hnd, by simp, fun _ => by simpa using hlen⟩
  | fuel + 1, t, listed, acc, hsz, hl, hnd, hlt, hlen, hclosed => by
    simp only [Region.linearise.go]
    let ready : Nat → Bool := fun i => !listed.getD i true && ((ops[i]?).map (·.after.all fun e => !Region.binds m e || listed.getD e.on false)).getD false
    have hrs : (List.range ops.size).filter (fun i => !listed.getD i true && ((ops[i]?).map (·.after.all fun e => !Region.binds m e || listed.getD e.on false)).getD false) = (List.range ops.size).filter ready := rfl
    have hon : ∀ (j : Nat), listed.getD j false = true → j ∈ acc := fun j hj => by
      by_cases hjs : j < ops.size
      · refine (hl j hjs).1 ?_
        rw [Array.getD_eq_getD_getElem?] at hj ⊢
        rw [Array.getElem?_eq_getElem (by omega)] at hj ⊢
        exact hj
      · rw [Array.getD_eq_getD_getElem?, Array.getElem?_eq_none (by omega)] at hj
        simp at hj
    have hready : ∀ i, i ∈ (List.range ops.size).filter ready → i < ops.size ∧ i ∉ acc ∧ ∀ o, ops[i]? = some o → ∀ e ∈ o.after.toList, Region.binds m e = true → e.on ∈ acc := fun i hi => by
      obtain ⟨h1, h2⟩ := List.mem_filter.1 hi
      have hi' : i < ops.size := List.mem_range.1 h1
      simp only [ready, Bool.and_eq_true, Bool.not_eq_true'] at h2
      refine ⟨hi', fun hin => ?_, fun o ho e he hb => ?_⟩
      · have := (hl i hi').2 hin
        rw [this] at h2
        cases h2.1
      · rw [ho] at h2
        simp only [Option.map_some, Option.getD_some, Array.all_eq_true_iff_forall_mem] at h2
        have := h2.2 e (Array.mem_toList_iff.1 he)
        rw [hb] at this
        simp only [Bool.not_true, Bool.false_or] at this
        exact hon _ this
    have hpos : Prog m ops → 0 < ((List.range ops.size).filter ready).length := fun hprog => by
      obtain ⟨i0, o0, q1, q2, q3, q4⟩ := hprog acc hnd hlt (by omega) hclosed
      have hi0 : i0 ∈ (List.range ops.size).filter ready := by
        refine List.mem_filter.2 ⟨List.mem_range.2 q1, ?_⟩
        simp only [ready, Bool.and_eq_true, Bool.not_eq_true', q3, Option.map_some, Option.getD_some, Array.all_eq_true_iff_forall_mem]
        refine ⟨?_, fun e he => ?_⟩
        · cases hh : listed.getD i0 true with
          | false => rfl
          | true => exact absurd ((hl i0 q1).1 hh) q2
        · cases hb : Region.binds m e with
          | false => rfl
          | true =>
            have hin := q4 e (Array.mem_toList_iff.2 he) hb
            have hos := hlt _ hin
            have := (hl _ hos).2 hin
            rw [Array.getD_eq_getD_getElem?] at this ⊢
            rw [Array.getElem?_eq_getElem (by omega)] at this ⊢
            simpa using this
      exact List.length_pos_of_mem hi0
    rw [hrs]
    rcases Nat.eq_zero_or_pos ((List.range ops.size).filter ready).length with h0 | hpos'
    · have he : (List.range ops.size).filter ready = [] := List.eq_nil_of_length_eq_zero h0
      rw [he]
      exact ⟨[], by simp, trivial, by rw [List.append_nil]; exact (List.reverse_perm acc).nodup_iff.2 hnd, by simp, fun hp => absurd (hpos hp) (by omega)⟩
    have hix : t % ((List.range ops.size).filter ready).length < ((List.range ops.size).filter ready).length := Nat.mod_lt _ hpos'
    rw [List.getElem?_eq_getElem hix]
    simp only
    generalize hi : ((List.range ops.size).filter ready)[t % ((List.range ops.size).filter ready).length] = i
    have hmem : i ∈ (List.range ops.size).filter ready := hi ▸ List.getElem_mem hix
    obtain ⟨r1, r2, r3⟩ := hready i hmem
    obtain ⟨l, s1, s2, s3, s4, s5⟩ := go_topo m ops fuel (t / ((List.range ops.size).filter ready).length) (listed.setIfInBounds i true) (i :: acc) (by simp [hsz]) (fun j hj => by
      simp only [Array.getD_eq_getD_getElem?, Array.getElem?_setIfInBounds, List.mem_cons]
      by_cases hji : i = j
      · subst hji
        simp [hsz, hj]
      · rw [if_neg hji]
        have := hl j hj
        rw [Array.getD_eq_getD_getElem?] at this
        rw [this]
        exact ⟨fun h => .inr h, fun h => h.resolve_left fun e => hji e.symm⟩) (List.nodup_cons.2 ⟨r2, hnd⟩) (fun j hj => by
      rcases List.mem_cons.1 hj with rfl | h
      · exact r1
      · exact hlt j h) (by simp; omega) (fun j hj o ho e he hb => by
      rcases List.mem_cons.1 hj with rfl | h
      · exact List.mem_cons_of_mem _ (r3 o ho e he hb)
      · exact List.mem_cons_of_mem _ (hclosed j h o ho e he hb))
    refine ⟨i :: l, by rw [s1]; simp, ⟨r2, fun j hj => ?_, s2⟩, by simpa using s3, fun j hj => ?_, fun hp => by have := s5 hp; simp at this ⊢; omega⟩
    · obtain ⟨o, ho⟩ : ∃ o, ops[i]? = some o := ⟨ops[i], Array.getElem?_eq_getElem r1⟩
      have : (aftB m ops).getD i [] = (o.after.toList.filter (Region.binds m)).map (·.on) := by
        simp [aftB, List.getD, ho]
      rw [this] at hj
      obtain ⟨e, he, rfl⟩ := List.mem_map.1 hj
      obtain ⟨he1, he2⟩ := List.mem_filter.1 he
      exact r3 o ho e he1 he2
    · rcases List.mem_cons.1 hj with rfl | h
      · exact r1
      · exact s4 j h

theorem TopoFrom.mono {aft aft' : List (List Nat)} (h : ∀ i, ∀ j ∈ aft'.getD i [], j ∈ aft.getD i []) : ∀ {done l : List Nat}, TopoFrom aft done l → TopoFrom aft' done l
  | _, [], _ => trivial
  | _, i :: _, ⟨h1, h2, h3⟩ => ⟨h1, fun j hj => h2 j (h i j hj), TopoFrom.mono h h3⟩

/-- The first one of an order that is not among these. -/
theorem TopoFrom.first {aft : List (List Nat)} (acc : List Nat) : ∀ {done l : List Nat}, TopoFrom aft done l → (∀ j ∈ done, j ∈ acc) → (∃ i ∈ l, i ∉ acc) → ∃ i ∈ l, i ∉ acc ∧ ∀ j ∈ aft.getD i [], j ∈ acc
  | _, [], _, _, ⟨i, hi, _⟩ => by cases hi
  | done, i :: l, ⟨_, h2, h3⟩, hd, hex => by
    by_cases hi : i ∈ acc
    · obtain ⟨j, hj, hjn⟩ := hex
      have hjl : j ∈ l := by
        rcases List.mem_cons.1 hj with rfl | h
        · exact absurd hi hjn
        · exact h
      obtain ⟨q, q1, q2, q3⟩ := TopoFrom.first acc h3 (fun j hj => by
        rcases List.mem_cons.1 hj with rfl | h
        · exact hi
        · exact hd j h) ⟨j, hjl, hjn⟩
      exact ⟨q, List.mem_cons_of_mem _ q1, q2, q3⟩
    · exact ⟨i, List.mem_cons_self .., hi, fun j hj => hd j (h2 j hj)⟩

/-- However the order is drawn, it keeps the firm edges and leaves out nothing. -/
theorem schedule_topo (ops : Array Oper) (hok : drawOk ops = true) (mixed : Bool) (t : Nat) : Topo (aftOf ops) ops.size (Region.schedule mixed ops t) := by
  obtain ⟨hback, hgc⟩ := Bool.and_eq_true_iff.1 hok
  have hfirmAny : ∀ (m : Region.Mode) (e : Edge), firm e = true → Region.binds m e = true := fun m e h => by
    unfold firm at h
    unfold Region.binds
    split at h <;> simp_all
  have hedge : ∀ (i : Nat) (o : Oper), ops[i]? = some o → ∀ e ∈ o.after.toList, e.on < i ∨ ∃ r, e.ground = .gcOnly r := fun i o ho e he => by
    have h1 := Array.all_eq_true_iff_forall_mem.1 hback (o, i) (by
      rw [Array.mem_zipIdx_iff_getElem?]
      simpa using ho)
    simp only at h1
    have h2 := Array.all_eq_true_iff_forall_mem.1 h1 e (Array.mem_toList_iff.1 he)
    simp only [Bool.or_eq_true, decide_eq_true_eq] at h2
    rcases h2 with h2 | h2
    · exact .inl h2
    · right
      split at h2
      · rename_i r hr; exact ⟨r, hr⟩
      · cases h2
  -- an order that is a list of all, each behind what it must stand behind: there is always one that is ready
  have main : ∀ (m : Region.Mode) (t : Nat), Prog m ops → Topo (aftOf ops) ops.size (Region.linearise m ops t) := fun m t hp => by
    obtain ⟨l, h1, h2, h3, h4, h5⟩ := go_topo m ops ops.size t (Array.replicate ops.size false) [] (by simp) (fun i hi => by simp [hi]) (by simp) (by simp) (by simp) (by simp)
    simp only [List.reverse_nil, List.nil_append] at h1 h3
    unfold Region.linearise
    rw [h1]
    refine ⟨h2.mono fun i j hj => ?_, h4, pigeon ops.size l h3 h4 (by simpa using h5 hp)⟩
    simp only [aftOf, aftB, List.getD, List.getElem?_map] at hj ⊢
    cases ho : ops.toList[i]? with
    | none => rw [ho] at hj; simp at hj
    | some o =>
      rw [ho] at hj
      simp only [Option.map_some, Option.getD_some] at hj ⊢
      obtain ⟨e, he, rfl⟩ := List.mem_map.1 hj
      obtain ⟨he1, he2⟩ := List.mem_filter.1 he
      exact List.mem_map.2 ⟨e, List.mem_filter.2 ⟨he1, hfirmAny m e he2⟩, rfl⟩
  have someout : ∀ (acc : List Nat), acc.length < ops.size → ∃ i, i < ops.size ∧ i ∉ acc := fun acc hlen => by
    apply Classical.byContradiction
    intro hno
    have hall : ∀ i, i < ops.size → i ∈ acc := fun i hi => Classical.byContradiction fun h => hno ⟨i, hi, h⟩
    have := cover ops.size acc hall
    omega
  have forward : ∀ (m : Region.Mode), m ≠ .gc → ∀ t, Topo (aftOf ops) ops.size (Region.linearise m ops t) := fun m hm t => by
    refine main m t fun acc hnd hlt hlen _ => ?_
    obtain ⟨i, hi, hni⟩ := someout acc hlen
    have hleast : ∃ i, i < ops.size ∧ i ∉ acc ∧ ∀ j, j < i → j ∈ acc := by
      induction i using Nat.strongRecOn with
      | _ i ih =>
        by_cases hj : ∃ j, j < i ∧ j ∉ acc
        · obtain ⟨j, hji, hjn⟩ := hj
          exact ih j hji (by omega) hjn
        · exact ⟨i, hi, hni, fun j hji => Classical.byContradiction fun h => hj ⟨j, hji, h⟩⟩
    obtain ⟨i, hi, hni, hall⟩ := hleast
    refine ⟨i, ops[i], hi, hni, Array.getElem?_eq_getElem hi, fun e he hb => ?_⟩
    rcases hedge i _ (Array.getElem?_eq_getElem hi) e he with h | ⟨r, hr⟩
    · exact hall _ h
    · exfalso
      unfold Region.binds at hb
      rw [hr] at hb
      simp only [beq_iff_eq] at hb
      exact hm hb
  unfold Region.schedule
  split
  · exact forward .any (by simp) t
  · rename_i hmd
    split
    · exact forward .text (by simp) _
    · have hdep : Region.departs ops = true := by
        simp only [Bool.or_eq_true, Bool.not_eq_true', not_or] at hmd
        simpa using hmd.2
      rw [hdep] at hgc
      simp only [Bool.not_true, Bool.false_or, beq_iff_eq] at hgc
      -- the gc's order at 0 is whole: it is a witness
      obtain ⟨l, h1, h2, h3, h4, _⟩ := go_topo .gc ops ops.size 0 (Array.replicate ops.size false) [] (by simp) (fun i hi => by simp [hi]) (by simp) (by simp) (by simp) (by simp)
      simp only [List.reverse_nil, List.nil_append] at h1 h3
      unfold Region.linearise at hgc
      rw [h1] at hgc
      have hall := pigeon ops.size l h3 h4 hgc
      refine main .gc _ fun acc hnd hlt hlen _ => ?_
      obtain ⟨i, hi, hni⟩ := someout acc hlen
      obtain ⟨q, q1, q2, q3⟩ := h2.first acc (by simp) ⟨i, hall i hi, hni⟩
      have hq := h4 q q1
      refine ⟨q, ops[q], hq, q2, Array.getElem?_eq_getElem hq, fun e he hb => q3 _ ?_⟩
      simp only [aftB, List.getD, List.getElem?_map, Array.getElem?_toList, Array.getElem?_eq_getElem hq, Option.map_some, Option.getD_some]
      exact List.mem_map.2 ⟨e, List.mem_filter.2 ⟨he, hb⟩, rfl⟩

end Go.Am
