import Derived.Test.YtjfhdffmlnkooaaS14
namespace Go.Proofs.Ytjfhdffmlnkooaa
open Go Go.RowKit Go.Proofs.MapL PPM Go.Proofs.YtjfhdffmlnkooaaW.PrintWords

theorem new_find (n : Nat) (q : Qn) : (newS n).find q = none := by
  cases h : (newS n).find q with
  | none => rfl
  | some k =>
    obtain ⟨a, hk, hu, -⟩ := sfind_some h
    rw [newS_used k a hk] at hu; cases hu
theorem look_new (n : Nat) (q : Qn) (now : Int) : lookR (newS n) q now = (newS n, zeroEn, false) := by unfold lookR; rw [new_find]
set_option maxRecDepth 100000 in
set_option maxHeartbeats 8000000 in
theorem nobody_law (e : En) (now : Int) (w : World) : Calls Try.prog 8 #[e.v, .int .u64 now] w fun r w' => r = .returned (.bool true) ∧ Fr [] w w' := by
  unfold En.v
  go_enter Try.func8, Try.ntmps8
  go_upto_region 1 with (fail)
  refine wp_name ?_; intro w0 hw0
  have hF0 := alloc_of hw0
  have hb0 : Blk w0 w.heap.size 29 [.string e.q.name, .int .u16 e.q.ty, .int .u16 e.q.cl, .slice e.ra e.rn e.rc, .int .i64 e.rcode, .int .i64 e.rank, .int .u64 e.expire] := blk_of (c := [.string e.q.name, .int .u16 e.q.ty, .int .u16 e.q.cl, .slice e.ra e.rn e.rc, .int .i64 e.rcode, .int .i64 e.rank, .int .u64 e.expire]) hw0
  clear hw0
  have HX0 : Hd (w.heap.size ≤ w.heap.size) := Hd.mk (Nat.le_refl _)
  obtain ⟨x, hx⟩ : ∃ x, w.heap.size = x := ⟨_, rfl⟩
  rw [hx] at hb0 ⊢
  have HXW := Hd.mk hx
  have HF := Hd.mk hF0
  have HE := Hd.mk hb0
  clear hF0 hb0 hx
  go_wp2_with fail
  refine (shown_calls _).mono ?_
  rintro r w1 ⟨rfl, hf⟩
  have HF := Hd.mk (HF.out.trans hf)
  have HE := Hd.mk (HE.out.fr hf (by simp))
  clear hf
  obtain ⟨r0, r1, r2, r3, r4, r5, r6, rf⟩ := HE.out.cells7
  go_wp2_with fail
  clear r0 r1 r2 r3 r4 r5 r6 rf
  refine (insert_nil e now _).mono ?_
  rintro r w1 ⟨rfl, hf⟩
  have HF := Hd.mk (HF.out.trans hf)
  have HE := Hd.mk (HE.out.fr hf (by simp))
  clear hf
  obtain ⟨r0, r1, r2, r3, r4, r5, r6, rf⟩ := HE.out.cells7
  go_wp2_with fail
  clear r0 r1 r2 r3 r4 r5 r6 rf
  refine (lookup_nil e.q now _).mono ?_
  rintro r w1 ⟨rfl, hf⟩
  have HF := Hd.mk (HF.out.trans hf)
  have HE := Hd.mk (HE.out.fr hf (by simp))
  clear hf
  unfold zeroEn En.v
  go_upto_region 5 with (fail)
  refine wp_name ?_; intro w5 hw5
  have hf5 := alloc_of hw5
  clear hw5
  have HF := Hd.mk (HF.out.trans hf5)
  have HE := Hd.mk (HE.out.fr hf5 (by simp))
  clear hf5
  go_wp2_with fail
  refine (shnew_calls 3 3 (by omega) (by omega) (by omega) (by omega) _).mono ?_
  rintro r w6 ⟨B, rfl, hs, hf, hge⟩
  have HG : Hd (∀ y ∈ B.all, y ≠ x ∧ w.heap.size ≤ y) := Hd.mk fun y hy => by have := hge y hy; have := HE.out.lt; have := HF.out.size; omega
  have HF := Hd.mk (HF.out.trans hf)
  have HE := Hd.mk (HE.out.fr hf (by simp))
  have HS := Hd.mk hs
  have HNX : Hd (x ∉ B.wr) := Hd.mk fun h => (HG.out x (B.wr_all x h)).1 rfl
  have HGW : Hd (∀ y ∈ B.wr, w.heap.size ≤ y) := Hd.mk fun y hy => (HG.out y (B.wr_all y hy)).2
  clear hf hs hge
  obtain ⟨r0, r1, r2, r3, r4, r5, r6, rf⟩ := HE.out.cells7
  go_wp2_with fail
  clear r0 r1 r2 r3 r4 r5 r6 rf
  refine (lookup_calls HS.out e.q now).mono ?_
  rintro r w1 ⟨rfl, hs, hf⟩
  rw [look_new] at hs ⊢
  have HF := Hd.mk (HF.out.weak hf (fun y hy => .inr (HGW.out y hy)))
  have HE := Hd.mk (HE.out.fr hf HNX.out)
  have HS := Hd.mk hs
  clear hs hf
  unfold zeroEn En.v
  go_upto_region 7 with (fail)
  refine wp_name ?_; intro w8 hw8
  have hf8 := alloc_of hw8
  clear hw8
  have HF := Hd.mk (HF.out.trans hf8)
  have HE := Hd.mk (HE.out.fr hf8 (by simp))
  have HS := Hd.mk (HS.out.fr0 hf8)
  clear hf8
  obtain ⟨r0, r1, r2, r3, r4, r5, r6, rf⟩ := HE.out.cells7
  go_wp2_with fail
  clear r0 r1 r2 r3 r4 r5 r6 rf
  refine (evict_nil e.q _).mono ?_
  rintro r w1 ⟨rfl, hf⟩
  have HF := Hd.mk (HF.out.trans hf)
  have HE := Hd.mk (HE.out.fr hf (by simp))
  have HS := Hd.mk (HS.out.fr0 hf)
  clear hf
  go_wp2_with fail
  refine (advance_nil now _).mono ?_
  rintro r w1 ⟨rfl, hw1⟩
  subst hw1
  go_wp2_with fail
  refine (keys_nil _).mono ?_
  rintro r w1 ⟨rfl, hw1⟩
  subst hw1
  go_wp2_with fail
  refine (shlen_nil _).mono ?_
  rintro r w1 ⟨rfl, hw1⟩
  subst hw1
  go_wp2_with fail
  refine (shroom_nil _).mono ?_
  rintro r w1 ⟨rfl, hw1⟩
  subst hw1
  obtain ⟨r0, r1, r2, r3, r4, r5, r6, rf⟩ := HE.out.cells7
  go_wp2_with fail
  clear r0 r1 r2 r3 r4 r5 r6 rf
  refine (evict_calls HS.out e.q).mono ?_
  rintro r w1 ⟨rfl, hs, hf⟩
  rw [new_find]
  have he2 : evictS (newS 3) e.q = newS 3 := by unfold evictS; rw [new_find]
  rw [he2] at hs
  have HF := Hd.mk (HF.out.weak hf (fun y hy => .inr (HGW.out y hy)))
  have HS := Hd.mk hs
  clear hs hf he2
  obtain ⟨tu, hs⟩ := HS.out
  have HS1 := Hd.mk hs
  clear hs
  go_wp2_with fail
  refine (shlen_calls HS1.out).mono ?_
  rintro r w1 ⟨rfl, hf⟩
  have HF := Hd.mk (HF.out.trans hf)
  have HS1 := Hd.mk (HS1.out.fr0 hf)
  clear hf
  go_wp2_with fail
  refine (shroom_calls HS1.out).mono ?_
  rintro r w1 ⟨rfl, hw1⟩
  subst hw1
  go_wp2_with fail
  refine (shnew_none 0 3 (by omega) _).mono ?_
  rintro r w1 ⟨rfl, hf⟩
  have HF := Hd.mk (HF.out.trans hf)
  clear hf
  go_wp2_with fail
  refine (shnew_none 3 0 (by omega) _).mono ?_
  rintro r w1 ⟨rfl, hf⟩
  have HF := Hd.mk (HF.out.trans hf)
  clear hf
  go_wp2
  go_ret
  exact ⟨rfl, HF.out⟩

end Go.Proofs.Ytjfhdffmlnkooaa
