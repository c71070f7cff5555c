import Derived.Test.YthnbdpcbagobhaaW10
namespace Go.Proofs.Ythnbdpcbagobhaa
open Go Go.RowKit Go.Proofs.MapL Go.Proofs.YthnbdpcbagobhaaW.PrintWords

def kD : Kd (Int × Int × Int) := Kd.pair (Kd.int .i64) (Kd.pair (Kd.int .i64) (Kd.int .u64))
theorem t_of {n : Int} (h : (Lit.int .u64 n).wf = true) : TOk n := by
  unfold Lit.wf at h
  simp only [IntKind.min, IntKind.max, IntKind.signed, IntKind.bits, Bool.and_eq_true, decide_eq_true_eq] at h
  simp at h
  exact ⟨h.1, by omega⟩
theorem opnD : Opn Try.prog 28 kD (fun x => IdOk x.2.1 ∧ TOk x.2.2) := by
  have h : Opn Try.prog 28 kD _ := opn_struct Try.underlying28 (by kernel_rfl)
    (opnF_cons rfl (opn_int Try.underlying3 (by kernel_rfl)) (opnF_cons rfl (opn_int Try.underlying3 (by kernel_rfl)) (opnF_one rfl (opn_int Try.underlying23 (by kernel_rfl)))))
  exact h.imp fun x h => ⟨h.2.1, t_of h.2.2⟩
theorem add_at {b off k : Nat} : (⟨b, off, none⟩ : Addr).add k = ⟨b, off + k, none⟩ := by unfold Addr.add; split <;> simp_all
theorem at_none {w : World} {a : Addr} {v : Value} (h : w.cell? (a.add 0) = some v) : a.spot = none := by
  have h0 : a.add 0 = a := by simp [Addr.add]
  rw [h0] at h
  unfold World.cell? at h
  cases hs : a.spot with
  | none => rfl
  | some x => split at h <;> simp [hs] at h
theorem wd_of {w : World} {x : Int × Int × Int} {cs : List Value} (h : kD.K w x cs) : cs = (Wd.mk x.1 x.2.1 x.2.2).c := by
  obtain ⟨_, _, rfl, rfl, ⟨_, _, rfl, rfl, rfl⟩⟩ := h
  exact rfl
theorem deeds_of {w : World} {v : Value} {xs : List (Int × Int × Int)} (h : (Kd.slice 28 kD).K w xs [v]) (hg : ∀ x ∈ xs, IdOk x.2.1 ∧ TOk x.2.2) : ∃ ds, DeedsAt w v ds := by
  obtain ⟨A, c, hv, hl, hlen, hmax, hc⟩ := h
  obtain rfl : v = .slice A xs.length c := by simpa using hv
  have hone : ∀ i, i < xs.length → ∃ d : Wd, (∀ ad, A = some ad → ∀ j u, d.c[j]? = some u → w.cell? (ad.add (i * 3 + j)) = some u) ∧ IdOk d.id ∧ TOk d.at_ := by
    intro i hi
    obtain ⟨ad, rfl, hc2⟩ := hc (by omega)
    obtain ⟨cs, hcl, hk, hcc⟩ := hc2 i _ (List.getElem?_eq_getElem hi)
    have e := wd_of hk
    subst e
    refine ⟨Wd.mk xs[i].1 xs[i].2.1 xs[i].2.2, fun ad' e j u hu => ?_, (hg _ (List.getElem_mem hi))⟩
    obtain rfl : ad = ad' := by simpa using e
    exact hcc j u hu
  obtain ⟨ds, hdl, hp⟩ := list_of hone
  refine ⟨ds, by omega, ?_, A, c, by rw [hdl], fun h0 => ?_⟩
  · intro d hd
    obtain ⟨i, hi, rfl⟩ := List.getElem_of_mem hd
    exact (hp i hi).2
  · obtain ⟨ad, rfl, -⟩ := hc (by omega)
    have h1 := (hp 0 h0).1 ad rfl 0 _ rfl
    obtain ⟨b, off, spot⟩ := ad
    have hs := at_none (a := ⟨b, off, spot⟩) (by simpa using h1)
    dsimp only at hs
    subst hs
    refine ⟨b, off, rfl, ?_, fun i hi j u hu => ?_⟩
    · have := World.block_lt_of_cell? w _ h1
      simpa [add_at] using this
    · have h2 := (hp i hi).1 _ rfl j u hu
      rw [add_at] at h2
      rw [Nat.add_assoc]; exact h2
end Go.Proofs.Ythnbdpcbagobhaa
