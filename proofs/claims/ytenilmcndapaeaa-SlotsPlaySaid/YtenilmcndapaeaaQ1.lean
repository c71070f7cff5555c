import Derived.Test.YtenilmcndapaeaaQ0
namespace Go.Proofs.Ytenilmcndapaeaa
open Go.RowKit

/- The hand: pure laws. -/
theorem SS.vic_len : ∀ (k : Nat) (s : SS), (s.vic k).1.l.length = s.l.length := by
  intro k
  induction k with
  | zero => intro s; rfl
  | succ k ih =>
    intro s
    rw [SS.vic]
    cases hg : s.l[s.hand]? with
    | none => rfl
    | some a =>
      simp only
      split
      · split
        · rw [ih]; simp
        · rfl
      · rw [ih]

theorem SS.vic_hand : ∀ (k : Nat) (s : SS), s.hand < s.l.length → (s.vic k).1.hand < s.l.length := by
  intro k
  induction k with
  | zero => intro s h; exact h
  | succ k ih =>
    intro s h
    have hm : (s.hand + 1) % s.l.length < s.l.length := Nat.mod_lt _ (by omega)
    rw [SS.vic_succ h]
    split
    · split
      · have := ih { l := s.l.set s.hand { s.l[s.hand] with touched := false }, hand := (s.hand + 1) % s.l.length } (by simpa using hm)
        simpa using this
      · exact hm
    · exact ih { s with hand := (s.hand + 1) % s.l.length } hm

/-- Nobody is there: the hand goes round. -/
theorem SS.vic_none : ∀ (k : Nat) (s : SS), s.hand < s.l.length → (∀ i (h : i < s.l.length), s.l[i].used = false) → s.vic k = ({ s with hand := (s.hand + k) % s.l.length }, 0, false) := by
  intro k
  induction k with
  | zero => intro s h _; rw [SS.vic, Nat.add_zero, Nat.mod_eq_of_lt h]
  | succ k ih =>
    intro s h hn
    rw [SS.vic_succ h, if_neg (by rw [hn]; simp)]
    have hm : (s.hand + 1) % s.l.length < s.l.length := Nat.mod_lt _ (by omega)
    rw [ih { s with hand := (s.hand + 1) % s.l.length } hm hn]
    simp only [Prod.mk.injEq, SS.mk.injEq, true_and, and_true]
    rw [Nat.mod_add_mod]
    congr 1; omega

theorem SS.all_zero {s : SS} (h : s.all.length = 0) : ∀ i (hi : i < s.l.length), s.l[i].used = false := by
  intro i hi
  have h0 : s.all = [] := List.eq_nil_of_length_eq_zero h
  unfold SS.all SS.allTo at h0
  rw [List.filter_eq_nil_iff] at h0
  have := h0 i (by simpa using hi)
  simpa [hi] using this
theorem SS.all_pos {s : SS} (h : 0 < s.all.length) : ∃ i, ∃ hi : i < s.l.length, s.l[i].used = true := by
  obtain ⟨x, hx⟩ := List.exists_mem_of_length_pos h
  unfold SS.all SS.allTo at hx
  rw [List.mem_filter, List.mem_range] at hx
  exact ⟨x, hx.1, by simpa [hx.1] using hx.2⟩

/-- Somebody who isn't touched lies d places ahead of the hand: told within d + 1 places. -/
theorem SS.vic_finds : ∀ (d k : Nat) (s : SS), s.hand < s.l.length → d < s.l.length → d < k → (∀ i (h : i < s.l.length), i = (s.hand + d) % s.l.length → s.l[i].used = true ∧ s.l[i].touched = false) → (s.vic k).2.2 = true := by
  intro d
  induction d with
  | zero =>
    intro k s h hd hk hi
    obtain ⟨k, rfl⟩ : ∃ m, k = m + 1 := ⟨k - 1, by omega⟩
    obtain ⟨h1, h2⟩ := hi s.hand h (by rw [Nat.add_zero, Nat.mod_eq_of_lt h])
    rw [SS.vic_succ h, if_pos h1, if_neg (by rw [h2]; simp)]
  | succ d ih =>
    intro k s h hd hk hi
    obtain ⟨k, rfl⟩ : ∃ m, k = m + 1 := ⟨k - 1, by omega⟩
    have hm : (s.hand + 1) % s.l.length < s.l.length := Nat.mod_lt _ (by omega)
    have he : ((s.hand + 1) % s.l.length + d) % s.l.length = (s.hand + (d + 1)) % s.l.length := by
      rw [Nat.mod_add_mod]; congr 1; omega
    have hne : (s.hand + (d + 1)) % s.l.length ≠ s.hand := by
      intro h'
      have h2 : (s.hand + (d + 1)) < s.l.length + s.l.length := by omega
      rcases Nat.lt_or_ge (s.hand + (d + 1)) s.l.length with h3 | h3
      · rw [Nat.mod_eq_of_lt h3] at h'; omega
      · rw [Nat.mod_eq_sub_mod h3, Nat.mod_eq_of_lt (by omega)] at h'; omega
    rw [SS.vic_succ h]
    split
    · split
      · refine ih k { l := s.l.set s.hand { s.l[s.hand] with touched := false }, hand := (s.hand + 1) % s.l.length } (by simpa using hm) (by simp; omega) (by omega) ?_
        intro i hil hie
        simp only [List.length_set] at hil hie
        have hin : i ≠ s.hand := by rw [hie, he]; exact hne
        simp only [List.getElem_set, if_neg (Ne.symm hin)]
        exact hi i hil (by rw [hie, he])
      · rfl
    · refine ih k { s with hand := (s.hand + 1) % s.l.length } hm (by simp; omega) (by omega) ?_
      intro i hil hie
      exact hi i hil (by rw [hie]; exact he)

/-- Somebody lies d places ahead of the hand: somebody is told within a round more. -/
theorem SS.vic_finds2 : ∀ (d k : Nat) (s : SS), s.hand < s.l.length → d < s.l.length → d + s.l.length < k → (∀ i (h : i < s.l.length), i = (s.hand + d) % s.l.length → s.l[i].used = true) → (s.vic k).2.2 = true := by
  intro d
  induction d with
  | zero =>
    intro k s h hd hk hi
    obtain ⟨k, rfl⟩ : ∃ m, k = m + 1 := ⟨k - 1, by omega⟩
    have h1 := hi s.hand h (by rw [Nat.add_zero, Nat.mod_eq_of_lt h])
    have hm : (s.hand + 1) % s.l.length < s.l.length := Nat.mod_lt _ (by omega)
    rw [SS.vic_succ h, if_pos h1]
    split
    · refine SS.vic_finds (s.l.length - 1) k { l := s.l.set s.hand { s.l[s.hand] with touched := false }, hand := (s.hand + 1) % s.l.length } (by simpa using hm) (by simp; omega) (by omega) ?_
      intro i hil hie
      simp only [List.length_set] at hil hie
      have : i = s.hand := by
        rw [hie, Nat.mod_add_mod, show s.hand + 1 + (s.l.length - 1) = s.hand + s.l.length by omega, Nat.add_mod_right, Nat.mod_eq_of_lt h]
      subst this
      simp [h1]
    · rfl
  | succ d ih =>
    intro k s h hd hk hi
    obtain ⟨k, rfl⟩ : ∃ m, k = m + 1 := ⟨k - 1, by omega⟩
    have hm : (s.hand + 1) % s.l.length < s.l.length := Nat.mod_lt _ (by omega)
    have he : ((s.hand + 1) % s.l.length + d) % s.l.length = (s.hand + (d + 1)) % s.l.length := by
      rw [Nat.mod_add_mod]; congr 1; omega
    rw [SS.vic_succ h]
    split
    · split
      · refine ih k { l := s.l.set s.hand { s.l[s.hand] with touched := false }, hand := (s.hand + 1) % s.l.length } (by simpa using hm) (by simp; omega) (by simp; omega) ?_
        intro i hil hie
        simp only [List.length_set] at hil hie
        simp only [List.getElem_set]
        have := hi i hil (by rw [hie, he])
        split
        · rename_i h'; subst h'; exact this
        · exact this
      · rfl
    · refine ih k { s with hand := (s.hand + 1) % s.l.length } hm (by simp; omega) (by simp; omega) ?_
      intro i hil hie
      exact hi i hil (by rw [hie]; exact he)

theorem SS.victim_zero {s : SS} (hh : s.hand < s.l.length) (h : s.all.length = 0) : s.victim = (s, 0, false) := by
  unfold SS.victim
  rw [SS.vic_none _ _ hh (SS.all_zero h)]
  simp only [Prod.mk.injEq, and_true]
  have : (s.hand + 2 * s.l.length) % s.l.length = s.hand := by
    rw [Nat.add_mul_mod_self_right, Nat.mod_eq_of_lt hh]
  rw [this]
theorem SS.victim_pos {s : SS} (hh : s.hand < s.l.length) (h : 0 < s.all.length) : s.victim.2.2 = true := by
  obtain ⟨i, hi, hu⟩ := SS.all_pos h
  unfold SS.victim
  by_cases hle : s.hand ≤ i
  · refine SS.vic_finds2 (i - s.hand) _ s hh (by omega) (by omega) ?_
    intro j hj he
    have : j = i := by rw [he, show s.hand + (i - s.hand) = i by omega, Nat.mod_eq_of_lt hi]
    subst this; exact hu
  · refine SS.vic_finds2 (i + s.l.length - s.hand) _ s hh (by omega) (by omega) ?_
    intro j hj he
    have : j = i := by rw [he, show s.hand + (i + s.l.length - s.hand) = i + s.l.length by omega, Nat.add_mod_right, Nat.mod_eq_of_lt hi]
    subst this; exact hu

theorem victim_any {w : World} {p b : Nat} {s : SS} (h : SlotsAt w p b s) :
    Calls Try.prog 19 #[.pointer (some ⟨p, 0, none⟩)] w fun e w' => e = .returned (.tuple #[.int .i64 s.victim.2.1, .bool s.victim.2.2]) ∧ SlotsAt w' p b s.victim.1 ∧ Fr [p, b] w w' := by
  rcases Nat.eq_zero_or_pos s.all.length with h0 | hp
  · rw [SS.victim_zero h.hand h0]
    refine (victim_no h h0).mono ?_
    rintro e w' ⟨rfl, hf⟩
    exact ⟨rfl, h.fr hf (by simp) (by simp), hf.mono (by simp)⟩
  · have hv := SS.victim_pos h.hand hp
    have e : s.vic (2 * s.l.length) = (s.victim.1, s.victim.2.1, true) := by rw [← hv]; rfl
    refine (victim_yes h hp _ _ e).mono ?_
    rintro e w' ⟨rfl, hs, hf⟩
    exact ⟨by rw [hv], hs, hf⟩
theorem rvictim_any {w : World} {gx cx gu cu gt ct : Nat} {s : SS} (h : RefAt w gx cx gu cu gt ct s) :
    Calls Try.prog 30 #[refV gx cx gu cu gt ct s.l.length s.hand] w fun e w' => ∃ gx cx gu cu gt ct,
      e = .returned (.tuple #[refV gx cx gu cu gt ct s.victim.1.l.length s.victim.1.hand, .int .i64 s.victim.2.1, .bool s.victim.2.2]) ∧ RefAt w' gx cx gu cu gt ct s.victim.1 ∧ Fr [] w w' :=
  rvictim h _ _ _ rfl
end Go.Proofs.Ytenilmcndapaeaa
