import Derived.Test.YtogjfcmclfehkaaCD
import Derived.Test.YtogjfcmclfehkaaOpz
namespace Go.Proofs.Ytogjfcmclfehkaa
open Go Go.RowKit Go.Proofs.MapL PPM Go.Proofs.YtogjfcmclfehkaaW.PrintWords

abbrev QGoodz (q : S33) : Prop := QGood q ∧ q.f0.size ≤ 1000000000000000
theorem opzQ : Opz Try.prog 33 k33 QGoodz := by
  have h : Opz Try.prog 33 k33 _ := opz_iso (f := fun x : S33 => (x.f0, x.f1, x.f2)) (g := fun a => ⟨a.1, a.2.1, a.2.2⟩) (fun _ => rfl) (opz_struct Try.underlying33 (by kernel_rfl)
    (opzF_cons rfl (opz_string Try.underlying9 (by kernel_rfl)) (opzF_cons rfl (opn_int Try.underlying31 (by kernel_rfl)).opz (opzF_one rfl (opn_int Try.underlying31 (by kernel_rfl)).opz))))
  refine h.imp ?_
  rintro ⟨a, b, c⟩ ⟨h1, h2, h3⟩
  simp [Lit.wf, IntKind.min, IntKind.max, IntKind.signed, IntKind.bits] at h2 h3
  have h1' : a.size ≤ 140737488351232 := h1
  refine ⟨⟨?_, ?_, ?_⟩, ?_⟩
  · show a.size ≤ maxLen
    unfold maxLen; omega
  · dsimp only; omega
  · dsimp only; omega
  · show a.size ≤ 1000000000000000
    omega
abbrev EGoodz (x : S37) : Prop := QGoodz x.f0 ∧ TOk x.f4
theorem opzE : Opz Try.prog 37 k37 EGoodz := by
  have h : Opz Try.prog 37 k37 _ := opz_iso (f := fun x : S37 => (x.f0, x.f1, x.f2, x.f3, x.f4)) (g := fun a => ⟨a.1, a.2.1, a.2.2.1, a.2.2.2.1, a.2.2.2.2⟩) (fun _ => rfl) (opz_struct Try.underlying37 (by kernel_rfl)
    (opzF_cons rfl opzQ (opzF_cons rfl (opn_slice Try.underlying34 (by kernel_rfl) opnRR).opz (opzF_cons rfl (opn_int Try.underlying3 (by kernel_rfl)).opz (opzF_cons rfl (opn_int Try.underlying3 (by kernel_rfl)).opz (opzF_one rfl (opn_int Try.underlying35 (by kernel_rfl)).opz))))))
  exact h.imp fun _ h => ⟨h.1, t_of h.2.2.2.2⟩
/-- A list of deeds that came in. -/
structure DeedsAt (w : World) (v : Value) (ds : List Dd) : Prop where
  le : ds.length ≤ 9223372036854775807
  rr : ∀ d ∈ ds, RdE w d.e ∧ TOk d.now ∧ d.e.q.name.size ≤ 1000000000000000
  at_ : ∃ A c, v = .slice A ds.length c ∧ (0 < ds.length → ∃ b off, A = some ⟨b, off, none⟩ ∧ b < w.heap.size ∧ ∀ i (h : i < ds.length) (j : Nat) (u : Value), (ds[i]).c[j]? = some u → w.cell? ⟨b, off + i * 9 + j, none⟩ = some u)
theorem DeedsAt.fr {w w' : World} {v : Value} {ds : List Dd} (h : DeedsAt w v ds) (hf : Fr [] w w') : DeedsAt w' v ds := by
  obtain ⟨A, c, e, h3⟩ := h.at_
  refine ⟨h.le, fun d hd => ⟨(h.rr d hd).1.fr hf, (h.rr d hd).2⟩, A, c, e, fun h0 => ?_⟩
  obtain ⟨b, off, e1, hb, hc⟩ := h3 h0
  refine ⟨b, off, e1, Nat.lt_of_lt_of_le hb hf.size, fun i hi j u hu => ?_⟩
  have h4 := hc i hi j u hu
  unfold World.cell? at h4 ⊢
  rw [hf.block b hb (by simp)]; exact h4
abbrev kD : Kd (Int × S37 × Int) := Kd.pair (Kd.int .i64) (Kd.pair k37 (Kd.int .u64))
theorem kD_open {w : World} {x : Int × S37 × Int} {cs : List Value} (h : kD.K w x cs) : ∃ A c, cs = [.int .i64 x.1, .string x.2.1.f0.f0, .int .u16 x.2.1.f0.f1, .int .u16 x.2.1.f0.f2, .slice A x.2.1.f1.length c, .int .i64 x.2.1.f2, .int .i64 x.2.1.f3, .int .u64 x.2.1.f4, .int .u64 x.2.2] ∧ x.2.1.f1.length ≤ c ∧ k72.C w A x.2.1.f1.length x.2.1.f1 := by
  obtain ⟨_, _, rfl, rfl, ⟨_, _, rfl, s0, rfl⟩⟩ := h
  obtain ⟨A, c, rfl, hl, hc⟩ := k37_open s0
  exact ⟨A, c, rfl, hl, hc⟩
abbrev DGoodz (x : Int × S37 × Int) : Prop := EGoodz x.2.1 ∧ TOk x.2.2
theorem opzD : Opz Try.prog 41 kD DGoodz := by
  have h : Opz Try.prog 41 kD _ := opz_struct Try.underlying41 (by kernel_rfl)
    (opzF_cons rfl (opn_int Try.underlying3 (by kernel_rfl)).opz (opzF_cons rfl opzE (opzF_one rfl (opn_int Try.underlying35 (by kernel_rfl)).opz)))
  exact h.imp fun _ h => ⟨h.2.1, t_of h.2.2⟩
theorem dd_of {w : World} {x : Int × S37 × Int} {cs : List Value} (h : kD.K w x cs) (hg : DGoodz x) : ∃ d : Dd, cs = d.c ∧ RdE w d.e ∧ TOk d.now ∧ d.e.q.name.size ≤ 1000000000000000 := by
  obtain ⟨A, c, rfl, hl, hc⟩ := kD_open h
  exact ⟨⟨x.1, ⟨⟨x.2.1.f0.f0, x.2.1.f0.f1, x.2.1.f0.f2, hg.1.1.1⟩, A, x.2.1.f1.length, c, x.2.1.f2, x.2.1.f3, x.2.1.f4⟩, x.2.2⟩, rfl, ⟨hg.1.2, x.2.1.f1, rfl, hl, hc⟩, hg.2, hg.1.1.2⟩
theorem add_at {b off k : Nat} : (⟨b, off, none⟩ : Addr).add k = ⟨b, off + k, none⟩ := by unfold Addr.add; split <;> simp_all
theorem at_none {w : World} {a : Addr} {v : Value} (h : w.cell? (a.add 0) = some v) : a.spot = none := by
  have h0 : a.add 0 = a := by simp [Addr.add]
  rw [h0] at h
  unfold World.cell? at h
  cases hs : a.spot with
  | none => rfl
  | some x => split at h <;> simp [hs] at h
theorem deeds_of {w : World} {v : Value} {xs : List (Int × S37 × Int)} (h : (Kd.slice 41 kD).K w xs [v]) (hg : ∀ x ∈ xs, DGoodz x) : ∃ ds, DeedsAt w v ds := by
  obtain ⟨A, c, hv, hl, hlen, hmax, hc⟩ := h
  obtain rfl : v = .slice A xs.length c := by simpa using hv
  have hone : ∀ i, i < xs.length → ∃ d : Dd, (∀ ad, A = some ad → ∀ j u, d.c[j]? = some u → w.cell? (ad.add (i * 9 + j)) = some u) ∧ RdE w d.e ∧ TOk d.now ∧ d.e.q.name.size ≤ 1000000000000000 := by
    intro i hi
    obtain ⟨ad, rfl, hc2⟩ := hc (by omega)
    obtain ⟨cs, hcl, hk, hcc⟩ := hc2 i _ (List.getElem?_eq_getElem hi)
    obtain ⟨d, rfl, hr⟩ := dd_of hk (hg _ (List.getElem_mem hi))
    refine ⟨d, fun ad' e j u hu => ?_, hr⟩
    obtain rfl : ad = ad' := by simpa using e
    exact hcc j u hu
  obtain ⟨ds, hdl, hp⟩ := list_of hone
  refine ⟨ds, by omega, ?_, A, c, by rw [hdl], fun h0 => ?_⟩
  · intro d hd
    obtain ⟨i, hi, rfl⟩ := List.getElem_of_mem hd
    exact (hp i hi).2
  · obtain ⟨ad, rfl, -⟩ := hc (by omega)
    have h1 := (hp 0 h0).1 ad rfl 0 _ rfl
    obtain ⟨b, off, spot⟩ := ad
    have hs := at_none (a := ⟨b, off, spot⟩) (by simpa using h1)
    dsimp only at hs
    subst hs
    refine ⟨b, off, rfl, ?_, fun i hi j u hu => ?_⟩
    · have := World.block_lt_of_cell? w _ h1
      simpa [add_at] using this
    · have h2 := (hp i hi).1 _ rfl j u hu
      rw [add_at] at h2
      rw [Nat.add_assoc]; exact h2
theorem exz_of {w : World} {x : S37} {cs : List Value} (h : k37.K w x cs) (hg : EGoodz x) : ∃ e : En, cs = e.c ∧ RdE w e ∧ e.q.name.size ≤ 1000000000000000 := by
  obtain ⟨A, c, rfl, hl, hc⟩ := k37_open h
  exact ⟨⟨⟨x.f0.f0, x.f0.f1, x.f0.f2, hg.1.1⟩, A, x.f1.length, c, x.f2, x.f3, x.f4⟩, rfl, ⟨hg.2, x.f1, rfl, hl, hc⟩, hg.1.2⟩
end Go.Proofs.Ytogjfcmclfehkaa
