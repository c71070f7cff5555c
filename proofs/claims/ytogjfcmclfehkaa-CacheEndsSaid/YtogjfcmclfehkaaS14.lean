import Derived.Test.YtogjfcmclfehkaaSC
import Derived.Test.YtogjfcmclfehkaaKq
import Derived.Test.YtogjfcmclfehkaaOpn
namespace Go.Proofs.Ytogjfcmclfehkaa
open Go Go.RowKit Go.Proofs.MapL PPM Go.Proofs.YtogjfcmclfehkaaW.PrintWords

abbrev QGood (q : S33) : Prop := q.f0.size ≤ maxLen ∧ (0 ≤ q.f1 ∧ q.f1 < 65536) ∧ (0 ≤ q.f2 ∧ q.f2 < 65536)
theorem opnRR : Opn Try.prog 72 k72 (fun _ => True) := by
  have h : Opn Try.prog 72 k72 _ := opn_iso (f := fun x : S72 => (x.f0, x.f1, x.f2, x.f3, x.f4)) (g := fun a => ⟨a.1, a.2.1, a.2.2.1, a.2.2.2.1, a.2.2.2.2⟩) (fun _ => rfl) (opn_struct Try.underlying72 (by kernel_rfl)
    (opnF_cons rfl (opn_string Try.underlying9 (by kernel_rfl)) (opnF_cons rfl (opn_int Try.underlying31 (by kernel_rfl)) (opnF_cons rfl (opn_int Try.underlying31 (by kernel_rfl)) (opnF_cons rfl (opn_int Try.underlying70 (by kernel_rfl)) (opnF_one rfl (opn_string Try.underlying9 (by kernel_rfl))))))))
  exact h.imp fun _ _ => trivial
theorem t_of {n : Int} (h : (Lit.int .u64 n).wf = true) : TOk n := by
  unfold Lit.wf at h
  simp only [IntKind.min, IntKind.max, IntKind.signed, IntKind.bits, Bool.and_eq_true] at h
  simp at h
  exact ⟨h.1, by omega⟩
/-- An entry whose records can be read. -/
structure RdE (w : World) (e : En) : Prop where
  t : TOk e.expire
  r : ∃ l : List S72, e.rn = l.length ∧ l.length ≤ e.rc ∧ Kd.C k72 w e.ra l.length l
theorem fr_below {w w' : World} (h : Below w.heap.size w w') : Fr [] w w' := ⟨h.os, h.tape, h.output, h.size, fun k hk _ => h.block k hk⟩
theorem below_fr {w w' : World} (h : Fr [] w w') : Below w.heap.size w w' := h.below (by simp)
theorem RdE.fr {w w' : World} {e : En} (h : RdE w e) (hf : Fr [] w w') : RdE w' e := by
  obtain ⟨l, h1, h2, h3⟩ := h.r
  exact ⟨h.t, l, h1, h2, Kd.C_below h3 (below_fr hf)⟩
theorem RdE.zero (w : World) : RdE w zeroEn := ⟨⟨by decide, by decide⟩, [], rfl, Nat.le_refl _, Kd.C_nil _ _⟩
end Go.Proofs.Ytogjfcmclfehkaa
