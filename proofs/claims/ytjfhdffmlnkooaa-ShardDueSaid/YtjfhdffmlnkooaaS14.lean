import Derived.Test.YtjfhdffmlnkooaaS13
import Derived.Test.YtjfhdffmlnkooaaOpn
namespace Go.Proofs.Ytjfhdffmlnkooaa
open Go Go.RowKit Go.Proofs.MapL PPM Go.Proofs.YtjfhdffmlnkooaaW.PrintWords

abbrev QGood (q : S25) : Prop := q.f0.size ≤ maxLen ∧ (0 ≤ q.f1 ∧ q.f1 < 65536) ∧ (0 ≤ q.f2 ∧ q.f2 < 65536)
theorem opnQ : Opn Try.prog 25 k25 QGood := by
  have h : Opn Try.prog 25 k25 _ := opn_iso (f := fun x : S25 => (x.f0, x.f1, x.f2)) (g := fun a => ⟨a.1, a.2.1, a.2.2⟩) (fun _ => rfl) (opn_struct Try.underlying25 (by kernel_rfl)
    (opnF_cons rfl (opn_string Try.underlying9 (by kernel_rfl)) (opnF_cons rfl (opn_int Try.underlying23 (by kernel_rfl)) (opnF_one rfl (opn_int Try.underlying23 (by kernel_rfl))))))
  refine h.imp ?_
  rintro ⟨a, b, c⟩ ⟨h1, h2, h3⟩
  simp [Lit.wf, IntKind.min, IntKind.max, IntKind.signed, IntKind.bits] at h2 h3
  refine ⟨h1, ?_, ?_⟩ <;> dsimp only <;> omega
theorem opnRR : Opn Try.prog 81 k81 (fun _ => True) := by
  have h : Opn Try.prog 81 k81 _ := opn_iso (f := fun x : S81 => (x.f0, x.f1, x.f2, x.f3, x.f4)) (g := fun a => ⟨a.1, a.2.1, a.2.2.1, a.2.2.2.1, a.2.2.2.2⟩) (fun _ => rfl) (opn_struct Try.underlying81 (by kernel_rfl)
    (opnF_cons rfl (opn_string Try.underlying9 (by kernel_rfl)) (opnF_cons rfl (opn_int Try.underlying23 (by kernel_rfl)) (opnF_cons rfl (opn_int Try.underlying23 (by kernel_rfl)) (opnF_cons rfl (opn_int Try.underlying79 (by kernel_rfl)) (opnF_one rfl (opn_string Try.underlying9 (by kernel_rfl))))))))
  exact h.imp fun _ _ => trivial
theorem t_of {n : Int} (h : (Lit.int .u64 n).wf = true) : TOk n := by
  unfold Lit.wf at h
  simp only [IntKind.min, IntKind.max, IntKind.signed, IntKind.bits, Bool.and_eq_true, decide_eq_true_eq] at h
  simp at h
  exact ⟨h.1, by omega⟩
abbrev EGood (x : S29) : Prop := QGood x.f0 ∧ TOk x.f4
theorem opnE : Opn Try.prog 29 k29 EGood := by
  have h : Opn Try.prog 29 k29 _ := opn_iso (f := fun x : S29 => (x.f0, x.f1, x.f2, x.f3, x.f4)) (g := fun a => ⟨a.1, a.2.1, a.2.2.1, a.2.2.2.1, a.2.2.2.2⟩) (fun _ => rfl) (opn_struct Try.underlying29 (by kernel_rfl)
    (opnF_cons rfl opnQ (opnF_cons rfl (opn_slice Try.underlying26 (by kernel_rfl) opnRR) (opnF_cons rfl (opn_int Try.underlying3 (by kernel_rfl)) (opnF_cons rfl (opn_int Try.underlying3 (by kernel_rfl)) (opnF_one rfl (opn_int Try.underlying27 (by kernel_rfl))))))))
  exact h.imp fun _ h => ⟨h.1, t_of h.2.2.2.2⟩
/-- An entry whose records can be read. -/
structure RdE (w : World) (e : En) : Prop where
  t : TOk e.expire
  r : ∃ l : List S81, e.rn = l.length ∧ l.length ≤ e.rc ∧ Kd.C k81 w e.ra l.length l
theorem fr_below {w w' : World} (h : Below w.heap.size w w') : Fr [] w w' := ⟨h.os, h.tape, h.output, h.size, fun k hk _ => h.block k hk⟩
theorem fr_drawn {w w' : World} (h : Drawn0 w w') : Fr [] w w' := fr_below h.below
theorem below_fr {w w' : World} (h : Fr [] w w') : Below w.heap.size w w' := h.below (by simp)
theorem RdE.fr {w w' : World} {e : En} (h : RdE w e) (hf : Fr [] w w') : RdE w' e := by
  obtain ⟨l, h1, h2, h3⟩ := h.r
  exact ⟨h.t, l, h1, h2, Kd.C_below h3 (below_fr hf)⟩
theorem RdE.zero (w : World) : RdE w zeroEn := ⟨⟨by decide, by decide⟩, [], rfl, Nat.le_refl _, Kd.C_nil _ _⟩
theorem ex_of {w : World} {x : S29} {cs : List Value} (h : k29.K w x cs) (hg : EGood x) : ∃ e : En, cs = e.c ∧ RdE w e := by
  obtain ⟨A, c, rfl, hl, hc⟩ := k29_open h
  exact ⟨⟨⟨x.f0.f0, x.f0.f1, x.f0.f2, hg.1⟩, A, x.f1.length, c, x.f2, x.f3, x.f4⟩, rfl, hg.2, x.f1, rfl, hl, hc⟩
end Go.Proofs.Ytjfhdffmlnkooaa
