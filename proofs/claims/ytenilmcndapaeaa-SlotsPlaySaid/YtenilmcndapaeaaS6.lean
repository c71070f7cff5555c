import Derived.Test.YtenilmcndapaeaaS5
namespace Go.Proofs.Ytenilmcndapaeaa
open Go.RowKit

theorem RefAt.fr {w w' : World} {gx cx gu cu gt ct : Nat} {s : SS} {S : List Nat} (h : RefAt w gx cx gu cu gt ct s) (hf : Fr S w w') (h1 : gx ∉ S) (h2 : gu ∉ S) (h3 : gt ∉ S) : RefAt w' gx cx gu cu gt ct s :=
  ⟨own_fr h.x hf (by simpa [Value.ownBlock] using h1), own_fr h.u hf (by simpa [Value.ownBlock] using h2), own_fr h.t hf (by simpa [Value.ownBlock] using h3), h.hand, h.len⟩
theorem RefAt.slot {w : World} {gx cx gu cu gt ct : Nat} {s : SS} (h : RefAt w gx cx gu cu gt ct s) {k : Nat} (hk : k < s.l.length) :
    w.cell? ⟨gx, k, none⟩ = some (.string s.l[k].x) ∧ w.cell? ⟨gu, k, none⟩ = some (.bool s.l[k].used) ∧ w.cell? ⟨gt, k, none⟩ = some (.bool s.l[k].touched) :=
  ⟨own_cell h.x (by simp [xsOf, hk]), own_cell h.u (by simp [usOf, hk]), own_cell h.t (by simp [tsOf, hk])⟩
theorem SS.used_in {s : SS} {k : Nat} (hk : k < s.l.length) : s.used k = s.l[k].used := by simp [SS.used, hk]
theorem SS.used_out {s : SS} {i : Int} (h : i < 0 ∨ (s.l.length : Int) ≤ i) : s.used i = false := by
  unfold SS.used
  rcases h with h | h
  · simp; omega
  · have : s.l[i.toNat]? = none := by simp; omega
    simp [this]

set_option maxRecDepth 100000 in
set_option maxHeartbeats 1000000 in
theorem there_any {w : World} {gx cx gu cu gt ct : Nat} {s : SS} (h : RefAt w gx cx gu cu gt ct s) (i : Int) :
    Calls Try.prog 33 #[refV gx cx gu cu gt ct s.l.length s.hand, .int .i64 i] w fun e w' => e = .returned (.bool (s.used i)) ∧ Fr [] w w' := by
  have hl := h.len
  unfold refV
  by_cases h0 : i < 0
  · have hu := hid (SS.used_out (s := s) (Or.inl h0))
    go_enter Try.func33, Try.ntmps33
    go_wp2
    go_ret
    rw [hu.out]
    exact ⟨rfl, (Fr.refl _ _).alloc _⟩
  · obtain ⟨k, rfl⟩ := Int.eq_ofNat_of_zero_le (by omega : 0 ≤ i)
    by_cases h1 : k < s.l.length
    · have h' := h.fr ((Fr.refl [] w).alloc (.cells #[.slice (some ⟨gx, 0, none⟩) s.l.length cx, .slice (some ⟨gu, 0, none⟩) s.l.length cu, .slice (some ⟨gt, 0, none⟩) s.l.length ct, .int .i64 s.hand] 30)) (by simp) (by simp) (by simp)
      obtain ⟨-, c1, -⟩ := h'.slot h1
      have hu := hid (SS.used_in h1)
      go_enter Try.func33, Try.ntmps33
      go_wp2
      go_ret
      rw [hu.out]
      exact ⟨rfl, (Fr.refl _ _).alloc _⟩
    · have hu := hid (SS.used_out (s := s) (i := k) (Or.inr (by omega)))
      go_enter Try.func33, Try.ntmps33
      go_wp2
      go_ret
      rw [hu.out]
      exact ⟨rfl, (Fr.refl _ _).alloc _⟩
end Go.Proofs.Ytenilmcndapaeaa
