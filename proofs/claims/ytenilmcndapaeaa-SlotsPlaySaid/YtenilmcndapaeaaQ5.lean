import Derived.Test.YtenilmcndapaeaaQ1
namespace Go.Proofs.Ytenilmcndapaeaa
open Go.RowKit

theorem allTo_len (s : SS) : ∀ k, (s.allTo k).length = (s.l.take k).countP (fun a => a.used) := by
  intro k
  induction k with
  | zero => simp [SS.allTo]
  | succ k ih =>
    rw [SS.allTo_succ, List.length_append, ih, List.take_add_one, List.countP_append]
    congr 1
    cases h : s.l[k]? with
    | none => simp
    | some a => cases hu : a.used <;> simp [hu]
theorem all_len (s : SS) : s.all.length = s.l.countP (fun a => a.used) := by
  unfold SS.all; rw [allTo_len, List.take_length]
theorem mem_all {s : SS} {k : Nat} : k ∈ s.all ↔ ∃ h : k < s.l.length, s.l[k].used = true := by
  unfold SS.all SS.allTo
  rw [List.mem_filter, List.mem_range]
  constructor
  · rintro ⟨h, hu⟩; exact ⟨h, by simpa [h] using hu⟩
  · rintro ⟨h, hu⟩; exact ⟨h, by simpa [h] using hu⟩
theorem all_congr {s t : SS} (hl : s.l.length = t.l.length) (h : ∀ i : Nat, (s.l[i]?).map (·.used) = (t.l[i]?).map (·.used)) : s.all = t.all := by
  unfold SS.all SS.allTo
  rw [hl]
  apply List.filter_congr
  intro i _
  rw [h i]

/-- All are used. -/
theorem full_len {s : SS} (h : ∀ j (hj : j < s.l.length), s.l[j].used = true) : s.all.length = s.l.length := by
  rw [all_len, List.countP_eq_length]
  intro a ha
  obtain ⟨j, hj, rfl⟩ := List.getElem_of_mem ha
  exact h j hj
theorem len_full {s : SS} (h : s.all.length = s.l.length) : ∀ j (hj : j < s.l.length), s.l[j].used = true := by
  rw [all_len, List.countP_eq_length] at h
  intro j hj
  exact h _ (List.getElem_mem hj)

section
variable {s : SS} {k : Nat} {x : ByteArray} (hk : k < s.l.length) (hu : s.l[k].used = false)
include hk hu
theorem put_all_len : (s.at k ⟨x, true, false⟩).all.length = s.all.length + 1 := by
  rw [all_len, all_len]
  simp only [SS.at]
  rw [List.countP_set hk]
  simp [hu]
theorem put_notin : k ∉ s.all := by
  rw [mem_all]; rintro ⟨_, h⟩; rw [hu] at h; cases h
theorem put_gone : ((s.at k ⟨x, true, false⟩).at k Sl.none).all = s.all := by
  refine all_congr (by simp [SS.at]) (fun i => ?_)
  simp only [SS.at, List.set_set]
  by_cases e : k = i
  · subst e; simp [hk, hu, Sl.none]
  · rw [List.getElem?_set_ne e]
end
theorem put_again {s : SS} {k : Nat} {x : ByteArray} (hk : k < s.l.length) (_hu : s.l[k].used = false) (hmin : ∀ j (hj : j < k), s.l[j].used = true) : ((s.at k ⟨x, true, false⟩).at k Sl.none).l.findIdx? (fun a => !a.used) = some k := by
  rw [List.findIdx?_eq_some_iff_getElem]
  refine ⟨by simpa [SS.at] using hk, by simp [SS.at, Sl.none], fun j hj => ?_⟩
  have hne : k ≠ j := by omega
  simp only [SS.at, List.set_set, List.getElem_set_ne hne]
  simp [hmin j hj]

/-- What a slot has: its text, and whether it is used. -/
def SS.has (s : SS) (i : Nat) : Option (ByteArray × Bool) := (s.l[i]?).map fun a => (a.x, a.used)
theorem get_has {s t : SS} {i : Nat} (h : s.has i = t.has i) : s.get i = t.get i := by
  unfold SS.has at h
  unfold SS.get SS.used
  simp only [Int.toNat_natCast]
  cases h1 : s.l[i]? <;> cases h2 : t.l[i]? <;> simp_all
theorem has_at {s : SS} {k i : Nat} {a : Sl} (h : k ≠ i) : (s.at k a).has i = s.has i := by
  unfold SS.has SS.at; simp [List.getElem?_set_ne h]
theorem has_vic : ∀ (k : Nat) (s : SS) (i : Nat), (s.vic k).1.has i = s.has i := by
  intro k
  induction k with
  | zero => intro s i; rfl
  | succ k ih =>
    intro s i
    rw [SS.vic]
    cases hg : s.l[s.hand]? with
    | none => rfl
    | some a =>
      simp only
      split
      · split
        · rw [ih]
          unfold SS.has
          simp only
          by_cases e : s.hand = i
          · subst e
            have hlt : s.hand < s.l.length := (List.getElem?_eq_some_iff.1 hg).1
            rw [List.getElem?_eq_getElem hlt] at hg
            simp only [Option.some.injEq] at hg
            subst hg
            simp [hlt]
          · rw [List.getElem?_set_ne e]
        · rfl
      · rw [ih]; rfl
end Go.Proofs.Ytenilmcndapaeaa
