/- SlotsApart: for every input the call returns true, and each argument reads behind it as it read before. No condition. -/
import Derived.Test.YtenilmcndapaeaaL8
import Derived.Test.YtenilmcndapaeaaOpen
import Derived.ProofKit
import Derived.OpenShut
import Derived.ShutString
import Derived.ChangeOld
namespace Go.Proofs.Ytenilmcndapaeaa
open Go.ChangeShapes Go.WideShapes Go.ChangeAt Go.RowKit
open Go.ChangeMaps (open_string shut_string)
set_option linter.unusedVariables false

theorem open_deed {H : Type} {enc : TypeId × Value → H} {W : World} {base : Nat} {v : Value} {d : DataW H} {ps : List MemPlace} (hok : Value.okWide Try.prog W .any base 35 v)
    (h : DataW.Trod enc Try.prog W 0 (fun _ => true) true 35 v d ps) : ∃ x : Dd, v = x.v := by
  obtain ⟨c0, c1, c2, y0, y1, y2, m, rfl, -, -, hy0, hy1, hy2⟩ := Go.Joins.open_agg3 Try.underlying35 (by kernel_rfl) (by kernel_rfl) hok h
  obtain ⟨n0, e0, -⟩ := DataW.trod_int Try.underlying3 hy0
  obtain ⟨n1, e1, -⟩ := DataW.trod_int Try.underlying3 hy1
  obtain ⟨n2, e2, -⟩ := DataW.trod_string Try.underlying9 hy2
  simp at e0 e1 e2
  subst e0; subst e1; subst e2
  exact ⟨⟨n0, n1, n2⟩, rfl⟩

theorem slotsApart_own : ownKnob Try.prog.godebug = none := by kernel_rfl
theorem slotsApart_laidOut : laidOutB Try.prog = true := by kernel_rfl

set_option maxRecDepth 100000 in
theorem slotsApart_lifted (os : Os) (started : os.Started) (H : Type) (enc : TypeId × Value → H) :
    ReturnsInHanded {} Try.checked os 8 .any (Rows.slotsApartSpec.pre6 enc Try.prog Try.f8 Rows.slotsApartRow.domain false) (Rows.slotsApartSpec.post enc Try.prog Try.f8 false true false false) := by
  refine returnsInHanded_of_change (C := Try.checked) slotsApart_own started (by kernel_rfl) Try.func8
    (ChangeSpec.witness6 (enc := enc) (C := Try.checked) false ⟨#[], #[.slice none 0 0, .agg #[.int .i64 0, .int .i64 0, .string ByteArray.empty], .int .u8 0], []⟩ 8 (by kernel_rfl) (by kernel_rfl) (by kernel_rfl) (by kernel_rfl)) ?_
  intro W base args ds gs before hval0 hW hcnd _
  have hval : ∀ (j : Nat) t v, Try.f8.params[j]? = some t → args[j]? = some v → Value.okWide Try.prog W .any base t v := hval0
  have hW' := hW
  obtain ⟨p, q, hA0, hV, rfl, hfz, hnd⟩ := hW
  have hA : DataW.TrodAll enc Try.prog W 0 (fun _ => true) true Try.f8.params.toList args.toList ds p := hA0
  rw [Try.params8] at hA hval
  obtain ⟨v0, vs0, d0, ds0, p0, q0, hargs, rfl, rfl, h0, r0⟩ := trodAll_cons hA
  obtain ⟨v1, vs1, d1, ds1, p1, q1, rfl, rfl, rfl, h1, r1⟩ := trodAll_cons r0
  obtain ⟨v2, vs2, d2, ds2, p2, q2, rfl, rfl, rfl, h2, r2⟩ := trodAll_cons r1
  obtain ⟨rfl, rfl, rfl⟩ := trodAll_nil r2
  obtain rfl : args = #[v0, v1, v2] := by cases args; simp_all
  obtain ⟨rfl, rfl⟩ := trodVars_none hV
  have k0 := h0
  have lt0 : ∀ x ∈ p0, x.block < W.heap.size := by obtain ⟨m, hm⟩ := k0; exact DataW.trod_lt m _ _ _ hm
  have k1 := h1
  have lt1 : ∀ x ∈ p1, x.block < W.heap.size := by obtain ⟨m, hm⟩ := k1; exact DataW.trod_lt m _ _ _ hm
  have k2 := h2
  have lt2 : ∀ x ∈ p2, x.block < W.heap.size := by obtain ⟨m, hm⟩ := k2; exact DataW.trod_lt m _ _ _ hm
  obtain ⟨ds0', hD⟩ := open_deeds Try.underlying22 (hval 0 22 v0 rfl rfl) h0
  obtain ⟨dd, rfl⟩ := open_deed (hval 1 35 v1 rfl rfl) h1
  obtain ⟨u2, rfl, rfl, rfl, wu2⟩ := open_int Try.underlying5 (hval 2 5 v2 rfl rfl) h2
  have bu2 := bounds_u8 wu2
  clear hA0 hval0
  refine (apart_any hD dd u2 bu2.1 (by omega)).mono fun e W' ⟨he, hfr⟩ => ?_
  have bel : Below W.heap.size W W' := hfr.below (by simp)
  subst he
  exact ⟨_, rfl, _, _, _, [], _, [], hW', trodAll_mk1 (shut_bool Try.underlying4 _), (trodAll_cons_mk (Below.trod slotsApart_laidOut (by kernel_rfl) (of_decide_eq_true (by kernel_rfl)) k0 bel lt0) (trodAll_cons_mk (Below.trod slotsApart_laidOut (by kernel_rfl) (of_decide_eq_true (by kernel_rfl)) k1 bel lt1) (trodAll_cons_mk (Below.trod slotsApart_laidOut (by kernel_rfl) (of_decide_eq_true (by kernel_rfl)) k2 bel lt2) trodAll_mk0))), rfl, bel.frame _, fun h => by cases h⟩

theorem slotsApart_holds : Rows.SlotsApartSaid :=
  OpenClaim.holds_of_wide 8 Try.f8 rfl rfl rfl rfl rfl rfl rfl ⟨rfl, rfl, rfl, rfl, rfl⟩ rfl rfl rfl rfl rfl (by kernel_rfl) Try.func8 (by kernel_rfl)
    (of_decide_eq_true (by kernel_rfl)) (by unfold Func.isWrapper; first | (rw [if_pos (by decide +kernel)]; kernel_rfl) | (rw [if_neg (by decide +kernel)]; exact ⟨rfl, rfl⟩))
    (fun os started H enc _ => slotsApart_lifted os started H enc)
#print axioms slotsApart_holds
end Go.Proofs.Ytenilmcndapaeaa
