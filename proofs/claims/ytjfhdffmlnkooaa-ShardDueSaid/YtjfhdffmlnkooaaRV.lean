import Derived.Test.YtjfhdffmlnkooaaR8
namespace Go.Proofs.Ytjfhdffmlnkooaa
open Go

/-- Nobody is missing: every slot is used. -/
theorem all_used {s : SS} (h : ¬ s.all.length < s.l.length) (j : Nat) (a : Sl) (ha : s.l[j]? = some a) : a.used = true := by
  have hj : j < s.l.length := (List.getElem?_eq_some_iff.1 ha).1
  cases hu : a.used with
  | true => rfl
  | false =>
    exfalso
    apply h
    unfold SS.all SS.allTo
    have hlt : ((List.range s.l.length).filter fun i => ((s.l[i]?).map (·.used)).getD false).length < (List.range s.l.length).length := by
      rw [List.length_filter_lt_length_iff_exists]
      exact ⟨j, List.mem_range.2 hj, by simp [ha, hu]⟩
    simpa using hlt

/-- What a full shard's victim is: the records of the slots stay. -/
theorem vic_full {s : SS} (hh : s.hand < s.l.length) (h : ¬ s.all.length < s.l.length) : ∃ s' i b, s.vic (2 * s.l.length) = (s', i, true) ∧ s.victim = (s', i, true) ∧ s'.l.length = s.l.length ∧ s.l[i]? = some b ∧ b.used = true ∧ (∀ a, s'.l[i]? = some a → a.x = b.x ∧ a.used = true) ∧ i < s'.l.length := by
  have hp : 0 < s.all.length := by omega
  have h3 := SS.victim_pos hh hp
  obtain ⟨⟨s', i, y⟩, hv⟩ : ∃ r, s.vic (2 * s.l.length) = r := ⟨_, rfl⟩
  have hvv : s.victim = (s', i, y) := hv
  rw [hvv] at h3
  have hy : y = true := h3
  subst hy
  obtain ⟨a, ha, hu⟩ := vic_used _ _ _ _ hh hv
  have hs := vic_same (2 * s.l.length) s hh
  rw [hv] at hs
  obtain ⟨b, hb, hbx, hbu⟩ := same_get hs ha
  refine ⟨s', i, b, hv, hvv, hs.1, hb, hbu.trans hu, fun a' ha' => ?_, (List.getElem?_eq_some_iff.1 ha).1⟩
  rw [ha] at ha'
  cases ha'
  exact ⟨hbx.symm, hu⟩
end Go.Proofs.Ytjfhdffmlnkooaa
