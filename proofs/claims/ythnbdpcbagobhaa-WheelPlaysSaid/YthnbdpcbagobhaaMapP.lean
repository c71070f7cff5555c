import Derived.Test.YthnbdpcbagobhaaMapL
namespace Go.Proofs.MapL
open Go Go.Maps

/-! A map's list may stand in any order. -/
section
variable {Q V : Type} [DecidableEq Q] {el : Q → Lit} {ev : V → Value} {P : Program} {k : TypeId} {w : World} {b : Nat} {L L' : List (Q × V)}
theorem find_perm (ha : L.Pairwise fun p q => p.1 ≠ q.1) (hp : L.Perm L') (x : Q) : findL L x = findL L' x := by
  have ha' : L'.Pairwise fun p q => p.1 ≠ q.1 := (hp.pairwise_iff (fun {a b} h => Ne.symm h)).1 ha
  cases h : findL L' x with
  | none =>
    have h1 := find_none h
    cases h2 : findL L x with
    | none => rfl
    | some v => exact absurd rfl (h1 _ (hp.mem_iff.1 (find_mem h2)))
  | some v => exact mem_find ha (hp.mem_iff.2 (find_mem h))
theorem Rel.perm {D : DataW Value} (h : Rel el ev D L) (hp : L.Perm L') : Rel el ev D L' :=
  ⟨fun x => by rw [h.has, find_perm h.apart hp], fun x z => by rw [h.at_, find_perm h.apart hp], by rw [h.size, hp.length_eq], (hp.pairwise_iff (fun {a b} h => Ne.symm h)).1 h.apart⟩
theorem mapIs.perm (h : mapIs el ev P k w b L) (hp : L.Perm L') : mapIs el ev P k w b L' := by
  obtain ⟨D, h, hr⟩ := h
  exact ⟨D, by rw [← hp.length_eq]; exact h, hr.perm hp⟩
theorem mapIs.apart (h : mapIs el ev P k w b L) : L.Pairwise fun p q => p.1 ≠ q.1 := by obtain ⟨_, -, h⟩ := h; exact h.apart
theorem put_new {x : Q} {v : V} (h : findL L x = none) : putL L x v = L ++ [(x, v)] := by unfold putL; rw [h]; rfl
theorem del_none {x : Q} (h : findL L x = none) : delL L x = L := by
  unfold delL; rw [List.filter_eq_self]
  intro p hp
  simpa using find_none h p hp
end
end Go.Proofs.MapL
