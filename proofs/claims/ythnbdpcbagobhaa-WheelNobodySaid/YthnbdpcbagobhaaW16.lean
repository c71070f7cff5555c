import Derived.Test.YthnbdpcbagobhaaW13
namespace Go.Proofs.Ythnbdpcbagobhaa
open Go Go.RowKit Go.Proofs.MapL Go.Proofs.YthnbdpcbagobhaaW.PrintWords

theorem ints_of {w : World} {v : Value} {xs : List Int} (h : (Kd.slice 3 (Kd.int .i64)).K w xs [v]) (hg : ∀ x ∈ xs, IdOk x) : IntsAt w v xs := by
  obtain ⟨A, c, hv, hl, hlen, hmax, hc⟩ := h
  obtain rfl : v = .slice A xs.length c := by simpa using hv
  refine ⟨hmax, hg, A, c, rfl, fun h0 => ?_⟩
  obtain ⟨ad, rfl, hc2⟩ := hc h0
  have hcell : ∀ i (hi : i < xs.length), w.cell? (ad.add i) = some (.int .i64 xs[i]) := fun i hi => by
    obtain ⟨cs, hcl, hk, hcc⟩ := hc2 i _ (List.getElem?_eq_getElem hi)
    have hk : cs = [.int .i64 xs[i]] := hk
    subst hk
    have h3 := hcc 0 _ rfl
    have e : (i * (Kd.int .i64).sz + 0) = i := by show i * 1 + 0 = i; omega
    rw [e] at h3; exact h3
  obtain ⟨b, off, spot⟩ := ad
  have hs := at_none (a := ⟨b, off, spot⟩) (hcell 0 h0)
  dsimp only at hs
  subst hs
  refine ⟨b, off, rfl, ?_, fun i hi => ?_⟩
  · have := World.block_lt_of_cell? w _ (hcell 0 h0)
    simpa [add_at] using this
  · have h2 := hcell i hi
    rw [add_at] at h2; exact h2
end Go.Proofs.Ythnbdpcbagobhaa
