import Derived.Test.YtenilmcndapaeaaQ5
namespace Go.Proofs.Ytenilmcndapaeaa
open Go.RowKit

/- The hand as a queue. -/
abbrev Qu := List (Nat × Bool)
def rot : Qu → Qu
  | [] => []
  | (i, _) :: q => q ++ [(i, false)]
def rotN : Nat → Qu → Qu
  | 0, q => q
  | k + 1, q => rotN k (rot q)
/-- The places from h on, round. -/
def cyc (n h : Nat) : List Nat := (List.range n).map fun j => (h + j) % n
def SS.at? (s : SS) (i : Nat) : Option (Nat × Bool) := (s.l[i]?).bind fun a => if a.used then some (i, a.touched) else none
def SS.q (s : SS) : Qu := (cyc s.l.length s.hand).filterMap s.at?

theorem cyc_succ {n h : Nat} (hh : h < n) : ∃ r, cyc n h = h :: r ∧ cyc n ((h + 1) % n) = r ++ [h] ∧ h ∉ r := by
  obtain ⟨m, rfl⟩ : ∃ m, n = m + 1 := ⟨n - 1, by omega⟩
  refine ⟨(List.range m).map fun j => (h + (j + 1)) % (m + 1), ?_, ?_, ?_⟩
  · unfold cyc
    rw [List.range_succ_eq_map]
    simp [Nat.mod_eq_of_lt hh, Function.comp_def]
  · unfold cyc
    rw [List.range_succ, List.map_append]
    congr 1
    · apply List.map_congr_left
      intro j _
      rw [Nat.mod_add_mod]; congr 1; omega
    · simp only [List.map_cons, List.map_nil, List.cons.injEq, and_true]
      rw [Nat.mod_add_mod, show h + 1 + m = h + (m + 1) by omega, Nat.add_mod_right, Nat.mod_eq_of_lt hh]
  · simp only [List.mem_map, List.mem_range, not_exists, not_and]
    intro j hj he
    rcases Nat.lt_or_ge (h + (j + 1)) (m + 1) with h3 | h3
    · rw [Nat.mod_eq_of_lt h3] at he; omega
    · rw [Nat.mod_eq_sub_mod h3, Nat.mod_eq_of_lt (by omega)] at he; omega

theorem cyc_perm (n : Nat) : ∀ h, h < n → (cyc n h).Perm (List.range n) := by
  intro h
  induction h with
  | zero =>
    intro hn
    have : cyc n 0 = List.range n := by
      unfold cyc
      conv => rhs; rw [← List.map_id (List.range n)]
      apply List.map_congr_left
      intro j hj
      simp only [List.mem_range] at hj
      simp [Nat.mod_eq_of_lt hj]
    rw [this]
  | succ h ih =>
    intro hn
    obtain ⟨r, h1, h2, -⟩ := cyc_succ (show h < n by omega)
    rw [Nat.mod_eq_of_lt hn] at h2
    rw [h2]
    refine List.Perm.trans ?_ (ih (by omega))
    rw [h1]
    exact (List.perm_append_comm (l₁ := r) (l₂ := [h]))

theorem q_fst (s : SS) : s.q.map (·.1) = (cyc s.l.length s.hand).filter fun i => ((s.l[i]?).map (·.used)).getD false := by
  unfold SS.q
  rw [List.map_filterMap]
  rw [← List.filterMap_eq_filter]
  congr 1
  funext i
  unfold SS.at?
  cases h : s.l[i]? with
  | none => simp only [Option.bind_none, Option.map_none, Option.guard, h, Option.getD_none, Bool.false_eq_true, if_false]
  | some a => cases hu : a.used <;> simp [hu, Option.guard, h]
theorem q_perm {s : SS} (hh : s.hand < s.l.length) : (s.q.map (·.1)).Perm s.all := by
  rw [q_fst]
  unfold SS.all SS.allTo
  exact (cyc_perm _ _ hh).filter _
theorem all_nodup (s : SS) : s.all.Nodup := by
  unfold SS.all SS.allTo
  exact List.Pairwise.filter _ List.nodup_range
theorem q_nodup {s : SS} (hh : s.hand < s.l.length) : (s.q.map (·.1)).Nodup := (q_perm hh).nodup_iff.2 (all_nodup s)
theorem q_len {s : SS} (hh : s.hand < s.l.length) : s.q.length = s.all.length := by
  have := (q_perm hh).length_eq; simpa using this

/-- A place that nothing has. -/
theorem q_skip {s : SS} (hh : s.hand < s.l.length) (hu : s.l[s.hand].used = false) : SS.q { s with hand := (s.hand + 1) % s.l.length } = s.q := by
  obtain ⟨r, h1, h2, -⟩ := cyc_succ hh
  have h0 : s.at? s.hand = none := by simp [SS.at?, hh, hu]
  unfold SS.q
  simp only [h1, h2, List.filterMap_append, List.filterMap_cons]
  have e : ∀ i, SS.at? { s with hand := (s.hand + 1) % s.l.length } i = s.at? i := fun i => rfl
  simp [h0, funext e]
theorem filterMap_same {α β : Type} {f g : α → Option β} : ∀ {l : List α}, (∀ x ∈ l, f x = g x) → l.filterMap f = l.filterMap g := by
  intro l
  induction l with
  | nil => intro _; rfl
  | cons a l ih =>
    intro h
    rw [List.filterMap_cons, List.filterMap_cons, h a (by simp), ih (fun x hx => h x (List.mem_cons_of_mem _ hx))]

/-- A place that has something is passed: the queue goes round by one. -/
theorem q_pass {s : SS} (hh : s.hand < s.l.length) (hu : s.l[s.hand].used = true) :
    SS.q { l := s.l.set s.hand { s.l[s.hand] with touched := false }, hand := (s.hand + 1) % s.l.length } = rot s.q ∧ s.q.head? = some (s.hand, s.l[s.hand].touched) := by
  obtain ⟨r, h1, h2, h3⟩ := cyc_succ hh
  have h0 : s.at? s.hand = some (s.hand, s.l[s.hand].touched) := by simp [SS.at?, hh, hu]
  have hq : s.q = (s.hand, s.l[s.hand].touched) :: r.filterMap s.at? := by
    unfold SS.q; rw [h1, List.filterMap_cons, h0]
  refine ⟨?_, by rw [hq]; rfl⟩
  rw [hq]
  simp only [rot]
  unfold SS.q
  simp only [List.length_set, h2, List.filterMap_append]
  congr 1
  · apply filterMap_same
    intro i hi
    have : s.hand ≠ i := fun h => h3 (h ▸ hi)
    simp [SS.at?, List.getElem?_set_ne this]
  · simp [SS.at?, hh, hu]

theorem vic_queue : ∀ (k : Nat) (s s' : SS) (i : Nat), s.hand < s.l.length → s.vic k = (s', i, true) →
    ∃ r, s'.q = rotN (r + 1) s.q ∧ (rotN r s.q).head? = some (i, false) ∧ ∀ r', r' < r → ∃ j, (rotN r' s.q).head? = some (j, true) := by
  intro k
  induction k with
  | zero => intro s s' i _ h; simp [SS.vic] at h
  | succ k ih =>
    intro s s' i hh h
    rw [SS.vic_succ hh] at h
    have hm : (s.hand + 1) % s.l.length < s.l.length := Nat.mod_lt _ (by omega)
    split at h
    · rename_i hu
      obtain ⟨hp, hd⟩ := q_pass hh hu
      split at h
      · rename_i ht
        obtain ⟨r, h1, h2, h3⟩ := ih _ _ _ (by simpa using hm) h
        rw [hp] at h1 h2 h3
        refine ⟨r + 1, h1, h2, fun r' hr' => ?_⟩
        cases r' with
        | zero => exact ⟨s.hand, by rw [rotN, hd, ht]⟩
        | succ r' => exact h3 r' (by omega)
      · rename_i ht
        simp only [Bool.not_eq_true] at ht
        simp only [Prod.mk.injEq, and_true] at h
        obtain ⟨rfl, rfl⟩ := h
        refine ⟨0, ?_, by rw [rotN, hd, ht], by simp⟩
        rw [rotN, rotN, ← hp]
        congr 2
        have : ({ s.l[s.hand] with touched := false } : Sl) = s.l[s.hand] := by rw [← ht]
        rw [this, List.set_getElem_self]
    · rename_i hu
      simp only [Bool.not_eq_true] at hu
      have := ih { s with hand := (s.hand + 1) % s.l.length } s' i hm h
      rwa [q_skip hh hu] at this

theorem victim_queue {s : SS} (hh : s.hand < s.l.length) (h : 0 < s.all.length) :
    ∃ r, s.victim.1.q = rotN (r + 1) s.q ∧ (rotN r s.q).head? = some (s.victim.2.1, false) ∧ ∀ r', r' < r → ∃ j, (rotN r' s.q).head? = some (j, true) :=
  vic_queue _ s _ _ hh (by have hv := SS.victim_pos hh h; rw [← hv]; rfl)
theorem victim_all (s : SS) : s.victim.1.all = s.all := by
  refine all_congr (SS.vic_len _ _) (fun i => ?_)
  have h := has_vic (2 * s.l.length) s i
  unfold SS.has at h
  unfold SS.victim
  cases h1 : (s.vic (2 * s.l.length)).1.l[i]? <;> cases h2 : s.l[i]? <;> simp_all
theorem victim_len (s : SS) : s.victim.1.l.length = s.l.length := SS.vic_len _ _
theorem victim_hand {s : SS} (hh : s.hand < s.l.length) : s.victim.1.hand < s.victim.1.l.length := by rw [victim_len]; exact SS.vic_hand _ _ hh

/-- So many are untouched, at the end of the queue. -/
def Clear (q : Qu) (k : Nat) : Prop := ∃ A B, q = A ++ B ∧ (∀ x ∈ B, x.2 = false) ∧ A.length ≤ q.length - k
theorem rot_len (q : Qu) : (rot q).length = q.length := by
  cases q with
  | nil => rfl
  | cons a q => simp [rot]
theorem rotN_len : ∀ (k : Nat) (q : Qu), (rotN k q).length = q.length := by
  intro k
  induction k with
  | zero => intro q; rfl
  | succ k ih => intro q; rw [rotN, ih, rot_len]
theorem clear_rot {q : Qu} {k : Nat} (h : Clear q k) : Clear (rot q) (k + 1) := by
  obtain ⟨A, B, rfl, hB, hA⟩ := h
  cases A with
  | nil =>
    cases B with
    | nil => exact ⟨[], [], rfl, by simp, by simp⟩
    | cons b B =>
      refine ⟨[], B ++ [(b.1, false)], rfl, fun x hx => ?_, by simp⟩
      rcases List.mem_append.1 hx with h' | h'
      · exact hB x (List.mem_cons_of_mem _ h')
      · simp at h'; subst h'; rfl
  | cons a A =>
    refine ⟨A, B ++ [(a.1, false)], by simp [rot], fun x hx => ?_, ?_⟩
    · rcases List.mem_append.1 hx with h' | h'
      · exact hB x h'
      · simp at h'; subst h'; rfl
    · rw [rot_len]; simp at hA ⊢; omega
theorem clear_mono {q : Qu} {k k' : Nat} (h : Clear q k) (hk : k' ≤ k) : Clear q k' := by
  obtain ⟨A, B, h1, h2, h3⟩ := h
  exact ⟨A, B, h1, h2, by omega⟩
theorem clear_rotN : ∀ (r : Nat) (q : Qu) (k : Nat), Clear q k → Clear (rotN (r + 1) q) (k + 1) := by
  intro r
  induction r with
  | zero => intro q k h; exact clear_rot h
  | succ r ih => intro q k h; exact clear_mono (ih (rot q) (k + 1) (clear_rot h)) (by omega)
theorem clear_victim {s : SS} (hh : s.hand < s.l.length) (h : 0 < s.all.length) {k : Nat} (hc : Clear s.q k) : Clear s.victim.1.q (k + 1) := by
  obtain ⟨r, h1, -⟩ := victim_queue hh h
  rw [h1]; exact clear_rotN r _ _ hc
theorem clear_start (q : Qu) : Clear q 0 := ⟨q, [], by simp, by simp, by simp⟩
theorem clear_all {q : Qu} (h : Clear q q.length) : ∀ x ∈ q, x.2 = false := by
  obtain ⟨A, B, h1, h2, h3⟩ := h
  have : A = [] := List.eq_nil_of_length_eq_zero (by omega)
  subst this
  simpa [h1] using h2

/-- Nobody is touched: the first one is told, and goes to the end. -/
theorem victim_clear {s : SS} (hh : s.hand < s.l.length) {I : List Nat} {i : Nat} (hq : s.q = (i :: I).map (·, false)) : s.victim.2 = (i, true) ∧ s.victim.1.q = (I ++ [i]).map (·, false) := by
  have hp : 0 < s.all.length := by rw [← q_len hh, hq]; simp
  obtain ⟨r, h1, h2, h3⟩ := victim_queue hh hp
  have hr : r = 0 := by
    rcases Nat.eq_zero_or_pos r with h | h
    · exact h
    · obtain ⟨j, hj⟩ := h3 0 h
      rw [rotN, hq] at hj
      simp at hj
  subst hr
  rw [rotN, hq] at h2
  rw [rotN, rotN, hq] at h1
  simp only [List.map_cons, List.head?_cons, Option.some.injEq, Prod.mk.injEq, and_true] at h2
  refine ⟨?_, by simpa [rot] using h1⟩
  have := SS.victim_pos hh hp
  rw [h2]; rw [← this]
end Go.Proofs.Ytenilmcndapaeaa
