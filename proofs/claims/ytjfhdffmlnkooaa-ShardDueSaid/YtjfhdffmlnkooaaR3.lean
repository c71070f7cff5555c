import Derived.Test.YtjfhdffmlnkooaaR2
namespace Go.Proofs.Ytjfhdffmlnkooaa
open Go Go.RowKit Go.Proofs.MapL PPM Go.Proofs.YtjfhdffmlnkooaaW.PrintWords

set_option maxRecDepth 100000 in
set_option maxHeartbeats 2000000 in
theorem rput_calls {w : World} {gx cx gu cu gt ct : Nat} {s : SS} (h : RefAt w gx cx gu cu gt ct s) (e : En) (hfree : ∃ (j : Nat) (a : Sl), s.l[j]? = some a ∧ a.used = false) :
    Calls Try.prog 55 #[refV gx cx gu cu gt ct s.l.length s.hand, e.v] w fun r w' => ∃ gx cx gu cu gt ct, r = .returned (refV gx cx gu cu gt ct s.l.length s.hand) ∧ RefAt w' gx cx gu cu gt ct (s.at (freeK s) ⟨e, true, false⟩) ∧ Fr [] w w' := by
  have HFREE := Hd.mk (freeK_spec hfree)
  clear hfree
  have H := Hd.mk h
  clear h
  unfold refV En.v
  go_enter Try.func55, Try.ntmps55
  go_upto_region 1 with (fail)
  refine wp_name ?_; intro w0 hw0
  have hf0 : Fr [] w w0 := by rw [hw0]; exact (((Fr.refl [] w).alloc _).alloc _).alloc _
  have hsb0 : Blk w0 (w.heap.size) 51 [.slice (some ⟨gx, 0, none⟩) s.l.length cx, .slice (some ⟨gu, 0, none⟩) s.l.length cu, .slice (some ⟨gt, 0, none⟩) s.l.length ct, .int .i64 s.hand] := by
    rw [hw0]
    have h0 := ((Blk.new (w) 51 [.slice (some ⟨gx, 0, none⟩) s.l.length cx, .slice (some ⟨gu, 0, none⟩) s.l.length cu, .slice (some ⟨gt, 0, none⟩) s.l.length ct, .int .i64 s.hand]).alloc (.cells #[.string e.q.name, .int .u16 e.q.ty, .int .u16 e.q.cl, .slice e.ra e.rn e.rc, .int .i64 e.rcode, .int .i64 e.rank, .int .u64 e.expire] 29)).alloc (.cells #[.slice none 0 0, .slice none 0 0, .slice none 0 0, .int .i64 0] 51)
    exact h0
  have heb0 : Blk w0 (w.heap.size + 1) 29 [.string e.q.name, .int .u16 e.q.ty, .int .u16 e.q.cl, .slice e.ra e.rn e.rc, .int .i64 e.rcode, .int .i64 e.rank, .int .u64 e.expire] := by
    rw [hw0]
    have h0 := (Blk.new ((w).alloc (.cells #[.slice (some ⟨gx, 0, none⟩) s.l.length cx, .slice (some ⟨gu, 0, none⟩) s.l.length cu, .slice (some ⟨gt, 0, none⟩) s.l.length ct, .int .i64 s.hand] 51)) 29 [.string e.q.name, .int .u16 e.q.ty, .int .u16 e.q.cl, .slice e.ra e.rn e.rc, .int .i64 e.rcode, .int .i64 e.rank, .int .u64 e.expire]).alloc (.cells #[.slice none 0 0, .slice none 0 0, .slice none 0 0, .int .i64 0] 51)
    simp only [World.size_alloc] at h0
    exact h0
  have hrb0 : Blk w0 (w.heap.size + 1 + 1) 51 [.slice none 0 0, .slice none 0 0, .slice none 0 0, .int .i64 0] := by
    rw [hw0]
    have h0 := Blk.new (((w).alloc (.cells #[.slice (some ⟨gx, 0, none⟩) s.l.length cx, .slice (some ⟨gu, 0, none⟩) s.l.length cu, .slice (some ⟨gt, 0, none⟩) s.l.length ct, .int .i64 s.hand] 51)).alloc (.cells #[.string e.q.name, .int .u16 e.q.ty, .int .u16 e.q.cl, .slice e.ra e.rn e.rc, .int .i64 e.rcode, .int .i64 e.rank, .int .u64 e.expire] 29)) 51 [.slice none 0 0, .slice none 0 0, .slice none 0 0, .int .i64 0]
    simp only [World.size_alloc] at h0
    exact h0
  clear hw0
  obtain ⟨sb, h_sb⟩ : ∃ sb, w.heap.size = sb := ⟨_, rfl⟩
  obtain ⟨eb, h_eb⟩ : ∃ eb, sb + 1 = eb := ⟨_, rfl⟩
  obtain ⟨rb, h_rb⟩ : ∃ rb, eb + 1 = rb := ⟨_, rfl⟩
  simp only [h_sb, h_eb, h_rb] at hsb0 heb0 hrb0 ⊢
  have HWL : Hd (w.heap.size ≤ sb ∧ w.heap.size ≤ eb ∧ w.heap.size ≤ rb) := Hd.mk (by omega)
  have HNE : Hd (sb ≠ eb ∧ sb ≠ rb ∧ eb ≠ rb) := Hd.mk (by omega)
  have HLT : Hd (sb < w0.heap.size ∧ eb < w0.heap.size ∧ rb < w0.heap.size) := Hd.mk (by have := hsb0.lt; have := heb0.lt; have := hrb0.lt; omega)
  have HSB := Hd.mk hsb0
  have HEB := Hd.mk heb0
  have HRB := Hd.mk hrb0
  have H0 := Hd.mk (H.out.fr hf0)
  have HF0 := Hd.mk hf0
  have hl64 := H.out.len
  have hhd := H.out.hand
  clear hf0 hsb0 h_sb heb0 h_eb hrb0 h_rb
  go_wp2_with fail
  go_loopw [5] (fun i wr => ∃ j : Nat, j ≤ freeK s ∧ i = .int .i64 j ∧ Fr [] w0 wr) (fun i _ => s.l.length - (intOf i).toNat)
  case atStart => exact ⟨0, Nat.zero_le _, rfl, Fr.refl _ _⟩
  case round =>
    obtain ⟨j, hj, rfl, hfr⟩ := hrel
    have HF := Hd.mk (HF0.out.trans hfr)
    have HSB := Hd.mk (HSB.out.fr hfr (by simp))
    have HEB := Hd.mk (HEB.out.fr hfr (by simp))
    have HRB := Hd.mk (HRB.out.fr hfr (by simp))
    have HR := Hd.mk (H0.out.fr hfr)
    have HFR := Hd.mk hfr
    obtain ⟨a, ha, hu, hmin⟩ := HFREE.out
    have hkl := (List.getElem?_eq_some_iff.1 ha).1
    obtain ⟨b0, b1, b2, b3, bf⟩ := HSB.out.cells4
    clear hfr
    by_cases hjk : j < freeK s
    · obtain ⟨b, hb, hbu⟩ := hmin j hjk
      have c1 := HR.out.use hb
      rw [hbu] at c1
      clear hb hbu ha hu hmin
      go_wp2
      go_roundw
      case rel => exact ⟨j + 1, by omega, by go_num, HFR.out⟩
      case measure => simp [intOf]; omega
    · have hje : j = freeK s := by omega
      have c1 := HR.out.use ha
      rw [hu, ← hje] at c1
      have HK := Hd.mk hje
      rw [← hje] at hkl
      clear ha hu hmin hje
      obtain ⟨r0, r1, r2, r3, r4, r5, r6, rf⟩ := HEB.out.cells7
      go_wp2_with fail
      clear b0 b1 b2 b3 bf c1 r0 r1 r2 r3 r4 r5 r6 rf
      refine (with_any HR.out j hkl e true false).mono ?_
      rintro r w2 ⟨gx', cx', gu', cu', gt', ct', rfl, h2, hf2⟩
      have H2 := Hd.mk h2
      have HRB2 := Hd.mk (HRB.out.fr hf2 (by simp))
      have HF2 := Hd.mk (HF.out.trans hf2)
      clear h2 hf2
      obtain ⟨d0, d1, d2, d3, df⟩ := HRB2.out.cells4
      unfold refV
      go_wp2
      refine ret_name ?_; intro w5 hw5
      obtain ⟨h5, f5⟩ := Blk.four HRB2.out hw5
      clear hw5
      obtain ⟨y0, y1, y2, y3, -⟩ := h5.cells4
      have hra := H2.out.frs f5 (by simpa using own_ne H2.out.x HRB2.out (by decide) _ rfl) (by simpa using own_ne H2.out.u HRB2.out (by decide) _ rfl) (by simpa using own_ne H2.out.t HRB2.out (by decide) _ rfl)
      refine bodyPost_ret (v := refV gx' cx' gu' cu' gt' ct' s.l.length s.hand) (by simp [results, Try.results55, go_sem, y0, y1, y2, y3, refV]) rfl ⟨gx', cx', gu', cu', gt', ct', rfl, by rw [← HK.out]; exact hra, HF2.out.weak f5 (by simp; exact HWL.out.2.2)⟩
set_option maxRecDepth 100000 in
set_option maxHeartbeats 2000000 in
theorem revict_calls {w : World} {gx cx gu cu gt ct : Nat} {s : SS} (h : RefAt w gx cx gu cu gt ct s) (q : Qn) :
    Calls Try.prog 40 #[refV gx cx gu cu gt ct s.l.length s.hand, q.v] w fun r w' => ∃ gx cx gu cu gt ct, r = .returned (.tuple #[refV gx cx gu cu gt ct s.l.length s.hand, .bool (s.find q).isSome]) ∧ RefAt w' gx cx gu cu gt ct (evictS s q) ∧ Fr [] w w' := by
  have H := Hd.mk h
  clear h
  unfold refV Qn.v
  go_enter Try.func40, Try.ntmps40
  go_upto_region 1 with (fail)
  refine wp_name ?_; intro w0 hw0
  have hf0 : Fr [] w w0 := by rw [hw0]; exact (((Fr.refl [] w).alloc _).alloc _).alloc _
  have hsb0 : Blk w0 (w.heap.size) 51 [.slice (some ⟨gx, 0, none⟩) s.l.length cx, .slice (some ⟨gu, 0, none⟩) s.l.length cu, .slice (some ⟨gt, 0, none⟩) s.l.length ct, .int .i64 s.hand] := by
    rw [hw0]
    have h0 := ((Blk.new (w) 51 [.slice (some ⟨gx, 0, none⟩) s.l.length cx, .slice (some ⟨gu, 0, none⟩) s.l.length cu, .slice (some ⟨gt, 0, none⟩) s.l.length ct, .int .i64 s.hand]).alloc (.cells #[.string q.name, .int .u16 q.ty, .int .u16 q.cl] 25)).alloc (.cells #[.slice none 0 0, .slice none 0 0, .slice none 0 0, .int .i64 0] 51)
    exact h0
  have hqb0 : Blk w0 (w.heap.size + 1) 25 [.string q.name, .int .u16 q.ty, .int .u16 q.cl] := by
    rw [hw0]
    have h0 := (Blk.new ((w).alloc (.cells #[.slice (some ⟨gx, 0, none⟩) s.l.length cx, .slice (some ⟨gu, 0, none⟩) s.l.length cu, .slice (some ⟨gt, 0, none⟩) s.l.length ct, .int .i64 s.hand] 51)) 25 [.string q.name, .int .u16 q.ty, .int .u16 q.cl]).alloc (.cells #[.slice none 0 0, .slice none 0 0, .slice none 0 0, .int .i64 0] 51)
    simp only [World.size_alloc] at h0
    exact h0
  have hrb0 : Blk w0 (w.heap.size + 1 + 1) 51 [.slice none 0 0, .slice none 0 0, .slice none 0 0, .int .i64 0] := by
    rw [hw0]
    have h0 := Blk.new (((w).alloc (.cells #[.slice (some ⟨gx, 0, none⟩) s.l.length cx, .slice (some ⟨gu, 0, none⟩) s.l.length cu, .slice (some ⟨gt, 0, none⟩) s.l.length ct, .int .i64 s.hand] 51)).alloc (.cells #[.string q.name, .int .u16 q.ty, .int .u16 q.cl] 25)) 51 [.slice none 0 0, .slice none 0 0, .slice none 0 0, .int .i64 0]
    simp only [World.size_alloc] at h0
    exact h0
  clear hw0
  obtain ⟨sb, h_sb⟩ : ∃ sb, w.heap.size = sb := ⟨_, rfl⟩
  obtain ⟨qb, h_qb⟩ : ∃ qb, sb + 1 = qb := ⟨_, rfl⟩
  obtain ⟨rb, h_rb⟩ : ∃ rb, qb + 1 = rb := ⟨_, rfl⟩
  simp only [h_sb, h_qb, h_rb] at hsb0 hqb0 hrb0 ⊢
  have HWL : Hd (w.heap.size ≤ sb ∧ w.heap.size ≤ qb ∧ w.heap.size ≤ rb) := Hd.mk (by omega)
  have HNE : Hd (sb ≠ qb ∧ sb ≠ rb ∧ qb ≠ rb) := Hd.mk (by omega)
  have HLT : Hd (sb < w0.heap.size ∧ qb < w0.heap.size ∧ rb < w0.heap.size) := Hd.mk (by have := hsb0.lt; have := hqb0.lt; have := hrb0.lt; omega)
  have HSB := Hd.mk hsb0
  have HQB := Hd.mk hqb0
  have HRB := Hd.mk hrb0
  have H0 := Hd.mk (H.out.fr hf0)
  have HF0 := Hd.mk hf0
  have hl64 := H.out.len
  have hhd := H.out.hand
  clear hf0 hsb0 h_sb hqb0 h_qb hrb0 h_rb
  obtain ⟨b0, b1, b2, b3, bf⟩ := HSB.out.cells4
  obtain ⟨r0, r1, r2, rf⟩ := HQB.out.cells3
  go_wp2_with fail
  clear r0 r1 r2 rf b0 b1 b2 b3 bf
  refine (rat_calls H0.out q).mono ?_
  rintro r w1 ⟨rfl, hf1⟩
  have HF1 := Hd.mk (HF0.out.trans hf1)
  have HSB1 := Hd.mk (HSB.out.fr hf1 (by simp))
  have HRB1 := Hd.mk (HRB.out.fr hf1 (by simp))
  have H1 := Hd.mk (H0.out.fr hf1)
  clear hf1
  obtain ⟨b0, b1, b2, b3, bf⟩ := HSB1.out.cells4
  obtain ⟨d0, d1, d2, d3, df⟩ := HRB1.out.cells4
  cases hf : s.find q with
  | none =>
    have hv : ratV s q = -1 := by unfold ratV; rw [hf]; rfl
    rw [hv]
    have HE : Hd (evictS s q = s) := Hd.mk (by unfold evictS; rw [hf])
    have HFN := Hd.mk hf
    clear hf hv
    go_wp2
    refine ret_name ?_; intro w5 hw5
    obtain ⟨h5, f5⟩ := Blk.four HRB1.out hw5
    clear hw5
    obtain ⟨y0, y1, y2, y3, -⟩ := h5.cells4
    have hra := H1.out.frs f5 (by simpa using own_ne H1.out.x HRB1.out (by decide) _ rfl) (by simpa using own_ne H1.out.u HRB1.out (by decide) _ rfl) (by simpa using own_ne H1.out.t HRB1.out (by decide) _ rfl)
    refine bodyPost_ret (v := .tuple #[refV gx cx gu cu gt ct s.l.length s.hand, .bool false]) (by simp [results, Try.results40, go_sem, y0, y1, y2, y3, refV]) rfl ⟨gx, cx, gu, cu, gt, ct, by rw [HFN.out]; rfl, by rw [HE.out]; exact hra, HF1.out.weak f5 (by simp; exact HWL.out.2.2)⟩
  | some k =>
    obtain ⟨a, hk, -, -⟩ := sfind_some hf
    have hkl := (List.getElem?_eq_some_iff.1 hk).1
    have hv : ratV s q = (k : Int) := by unfold ratV; rw [hf]; rfl
    rw [hv]
    have HE : Hd (evictS s q = s.at k Sl.none) := Hd.mk (by unfold evictS; rw [hf])
    have HFN := Hd.mk hf
    clear hf hv hk
    clear d0 d1 d2 d3 df
    go_wp2_with fail
    clear b0 b1 b2 b3 bf
    refine (with_any H1.out k hkl zeroEn false false).mono ?_
    rintro r w2 ⟨gx', cx', gu', cu', gt', ct', rfl, h2, hf2⟩
    have H2 := Hd.mk h2
    have HRB2 := Hd.mk (HRB1.out.fr hf2 (by simp))
    have HF2 := Hd.mk (HF1.out.trans hf2)
    clear h2 hf2
    obtain ⟨d0, d1, d2, d3, df⟩ := HRB2.out.cells4
    unfold refV
    go_wp2
    refine ret_name ?_; intro w5 hw5
    obtain ⟨h5, f5⟩ := Blk.four HRB2.out hw5
    clear hw5
    obtain ⟨y0, y1, y2, y3, -⟩ := h5.cells4
    have hra := H2.out.frs f5 (by simpa using own_ne H2.out.x HRB2.out (by decide) _ rfl) (by simpa using own_ne H2.out.u HRB2.out (by decide) _ rfl) (by simpa using own_ne H2.out.t HRB2.out (by decide) _ rfl)
    refine bodyPost_ret (v := .tuple #[refV gx' cx' gu' cu' gt' ct' s.l.length s.hand, .bool true]) (by simp [results, Try.results40, go_sem, y0, y1, y2, y3, refV]) rfl ⟨gx', cx', gu', cu', gt', ct', by rw [HFN.out]; rfl, by rw [HE.out]; exact hra, HF2.out.weak f5 (by simp; exact HWL.out.2.2)⟩
end Go.Proofs.Ytjfhdffmlnkooaa
