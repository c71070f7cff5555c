import Derived.Test.YtjfhdffmlnkooaaR3
namespace Go.Proofs.Ytjfhdffmlnkooaa
open Go Go.RowKit Go.Proofs.MapL PPM Go.Proofs.YtjfhdffmlnkooaaW.PrintWords

structure NotIn (a b c : Nat) (S : List Nat) : Prop where
  a : a ∉ S
  b : b ∉ S
  c : c ∉ S
theorem rbeats_calls (o e : En) (now : Int) (w : World) : Calls Try.prog 53 #[o.v, e.v, .int .u64 now] w fun r w' => r = .returned (.bool (beatsB o e now)) ∧ Fr [] w w' := by
  unfold En.v beatsB liveB
  have hb0 := ((Fr.refl [] w).alloc (.cells o.c.toArray 29)).alloc (.cells e.c.toArray 29)
  unfold En.c at hb0
  by_cases hl : o.expire ≤ now
  · have h1 : decide (o.expire ≤ now) = true := decide_eq_true hl
    have h2 : decide (o.expire > now) = false := decide_eq_false (by omega)
    rw [h2]
    clear hl h2
    go_enter Try.func53, Try.ntmps53
    go_wp2
    go_ret
    exact ⟨rfl, hb0⟩
  · have h1 : decide (o.expire ≤ now) = false := decide_eq_false hl
    have h2 : decide (o.expire > now) = true := decide_eq_true (by omega)
    rw [h2]
    clear hl h2
    go_enter Try.func53, Try.ntmps53
    go_wp2
    go_ret
    exact ⟨by simp, hb0⟩
set_option maxRecDepth 100000 in
set_option maxHeartbeats 2000000 in
theorem rlookup_calls {w : World} {gx cx gu cu gt ct : Nat} {s : SS} (h : RefAt w gx cx gu cu gt ct s) (q : Qn) (now : Int) :
    Calls Try.prog 39 #[refV gx cx gu cu gt ct s.l.length s.hand, q.v, .int .u64 now] w fun r w' => ∃ gx cx gu cu gt ct, r = .returned (.tuple #[refV gx cx gu cu gt ct s.l.length s.hand, (lookR s q now).2.1.v, .bool (lookR s q now).2.2]) ∧ RefAt w' gx cx gu cu gt ct (lookR s q now).1 ∧ Fr [] w w' := by
  have H := Hd.mk h
  clear h
  unfold refV Qn.v
  go_enter Try.func39, Try.ntmps39
  go_upto_region 1 with (fail)
  refine wp_name ?_; intro w0 hw0
  have hf0 : Fr [] w w0 := by rw [hw0]; exact ((((Fr.refl [] w).alloc _).alloc _).alloc _).alloc _
  have hsb0 : Blk w0 (w.heap.size) 51 [.slice (some ⟨gx, 0, none⟩) s.l.length cx, .slice (some ⟨gu, 0, none⟩) s.l.length cu, .slice (some ⟨gt, 0, none⟩) s.l.length ct, .int .i64 s.hand] := by
    rw [hw0]
    have h0 := (((Blk.new (w) 51 [.slice (some ⟨gx, 0, none⟩) s.l.length cx, .slice (some ⟨gu, 0, none⟩) s.l.length cu, .slice (some ⟨gt, 0, none⟩) s.l.length ct, .int .i64 s.hand]).alloc (.cells #[.string q.name, .int .u16 q.ty, .int .u16 q.cl] 25)).alloc (.cells #[.slice none 0 0, .slice none 0 0, .slice none 0 0, .int .i64 0] 51)).alloc (.cells #[.string ⟨#[]⟩, .int .u16 0, .int .u16 0, .slice none 0 0, .int .i64 0, .int .i64 0, .int .u64 0] 29)
    exact h0
  have hqb0 : Blk w0 (w.heap.size + 1) 25 [.string q.name, .int .u16 q.ty, .int .u16 q.cl] := by
    rw [hw0]
    have h0 := ((Blk.new ((w).alloc (.cells #[.slice (some ⟨gx, 0, none⟩) s.l.length cx, .slice (some ⟨gu, 0, none⟩) s.l.length cu, .slice (some ⟨gt, 0, none⟩) s.l.length ct, .int .i64 s.hand] 51)) 25 [.string q.name, .int .u16 q.ty, .int .u16 q.cl]).alloc (.cells #[.slice none 0 0, .slice none 0 0, .slice none 0 0, .int .i64 0] 51)).alloc (.cells #[.string ⟨#[]⟩, .int .u16 0, .int .u16 0, .slice none 0 0, .int .i64 0, .int .i64 0, .int .u64 0] 29)
    simp only [World.size_alloc] at h0
    exact h0
  have hrb0 : Blk w0 (w.heap.size + 1 + 1) 51 [.slice none 0 0, .slice none 0 0, .slice none 0 0, .int .i64 0] := by
    rw [hw0]
    have h0 := (Blk.new (((w).alloc (.cells #[.slice (some ⟨gx, 0, none⟩) s.l.length cx, .slice (some ⟨gu, 0, none⟩) s.l.length cu, .slice (some ⟨gt, 0, none⟩) s.l.length ct, .int .i64 s.hand] 51)).alloc (.cells #[.string q.name, .int .u16 q.ty, .int .u16 q.cl] 25)) 51 [.slice none 0 0, .slice none 0 0, .slice none 0 0, .int .i64 0]).alloc (.cells #[.string ⟨#[]⟩, .int .u16 0, .int .u16 0, .slice none 0 0, .int .i64 0, .int .i64 0, .int .u64 0] 29)
    simp only [World.size_alloc] at h0
    exact h0
  have hzb0 : Blk w0 (w.heap.size + 1 + 1 + 1) 29 [.string ⟨#[]⟩, .int .u16 0, .int .u16 0, .slice none 0 0, .int .i64 0, .int .i64 0, .int .u64 0] := by
    rw [hw0]
    have h0 := Blk.new ((((w).alloc (.cells #[.slice (some ⟨gx, 0, none⟩) s.l.length cx, .slice (some ⟨gu, 0, none⟩) s.l.length cu, .slice (some ⟨gt, 0, none⟩) s.l.length ct, .int .i64 s.hand] 51)).alloc (.cells #[.string q.name, .int .u16 q.ty, .int .u16 q.cl] 25)).alloc (.cells #[.slice none 0 0, .slice none 0 0, .slice none 0 0, .int .i64 0] 51)) 29 [.string ⟨#[]⟩, .int .u16 0, .int .u16 0, .slice none 0 0, .int .i64 0, .int .i64 0, .int .u64 0]
    simp only [World.size_alloc] at h0
    exact h0
  clear hw0
  obtain ⟨sb, h_sb⟩ : ∃ sb, w.heap.size = sb := ⟨_, rfl⟩
  obtain ⟨qb, h_qb⟩ : ∃ qb, sb + 1 = qb := ⟨_, rfl⟩
  obtain ⟨rb, h_rb⟩ : ∃ rb, qb + 1 = rb := ⟨_, rfl⟩
  obtain ⟨zb, h_zb⟩ : ∃ zb, rb + 1 = zb := ⟨_, rfl⟩
  simp only [h_sb, h_qb, h_rb, h_zb] at hsb0 hqb0 hrb0 hzb0 ⊢
  have HWL : Hd (w.heap.size ≤ sb ∧ w.heap.size ≤ qb ∧ w.heap.size ≤ rb ∧ w.heap.size ≤ zb) := Hd.mk (by omega)
  have HNE : Hd (sb ≠ qb ∧ sb ≠ rb ∧ sb ≠ zb ∧ qb ≠ rb ∧ qb ≠ zb ∧ rb ≠ zb) := Hd.mk (by omega)
  have HLT : Hd (sb < w0.heap.size ∧ qb < w0.heap.size ∧ rb < w0.heap.size ∧ zb < w0.heap.size) := Hd.mk (by have := hsb0.lt; have := hqb0.lt; have := hrb0.lt; have := hzb0.lt; omega)
  have HSB := Hd.mk hsb0
  have HQB := Hd.mk hqb0
  have HRB := Hd.mk hrb0
  have HZB := Hd.mk hzb0
  have H0 := Hd.mk (H.out.fr hf0)
  have HF0 := Hd.mk hf0
  have hl64 := H.out.len
  have hhd := H.out.hand
  clear hf0 hsb0 h_sb hqb0 h_qb hrb0 h_rb hzb0 h_zb
  have HNE2 : Hd (rb ≠ zb) := Hd.mk HNE.out.2.2.2.2.2
  have HNS : Hd (sb ∉ [rb, zb]) := Hd.mk (by have := HNE.out; simp; omega)
  have HN3 : Hd (gx ∉ [rb, zb] ∧ gu ∉ [rb, zb] ∧ gt ∉ [rb, zb]) := Hd.mk (by have := H.out.lt; have := HWL.out; simp only [List.mem_cons, List.not_mem_nil, or_false, not_or]; omega)
  obtain ⟨b0, b1, b2, b3, bf⟩ := HSB.out.cells4
  obtain ⟨r0, r1, r2, rf⟩ := HQB.out.cells3
  go_wp2_with fail
  clear r0 r1 r2 rf b0 b1 b2 b3 bf
  refine (rat_calls H0.out q).mono ?_
  rintro r w1 ⟨rfl, hf1⟩
  have HF1 := Hd.mk (HF0.out.trans hf1)
  have HSB1 := Hd.mk (HSB.out.fr hf1 (by simp))
  have HRB1 := Hd.mk (HRB.out.fr hf1 (by simp))
  have HZB1 := Hd.mk (HZB.out.fr hf1 (by simp))
  have H1 := Hd.mk (H0.out.fr hf1)
  have HLT2 : Hd (rb < w1.heap.size ∧ zb < w1.heap.size) := Hd.mk ⟨HRB1.out.lt, HZB1.out.lt⟩
  clear hf1
  obtain ⟨b0, b1, b2, b3, bf⟩ := HSB1.out.cells4
  cases hf : s.find q with
  | none =>
    have hv : ratV s q = -1 := by unfold ratV; rw [hf]; rfl
    rw [hv]
    have HLK : Hd (lookR s q now = (s, zeroEn, false)) := Hd.mk (by unfold lookR; rw [hf])
    clear hf hv
    obtain ⟨d0, d1, d2, d3, df⟩ := HRB1.out.cells4
    obtain ⟨x0, x1, x2, x3, x4, x5, x6, xf⟩ := HZB1.out.cells7
    have hn1 : rb ≠ zb := HNE2.out
    have hn2 : zb ≠ rb := Ne.symm HNE2.out
    go_wp2
    refine ret_name ?_; intro w5 hw5
    obtain ⟨h4, f4⟩ := HRB1.out.four (a' := .slice (some ⟨gx, 0, none⟩) s.l.length cx) (b' := .slice (some ⟨gu, 0, none⟩) s.l.length cu) (c' := .slice (some ⟨gt, 0, none⟩) s.l.length ct) (d' := .int .i64 s.hand) rfl
    obtain ⟨h5, f5⟩ := Blk.seven (HZB1.out.fr f4 (by simpa using Ne.symm HNE2.out)) hw5
    have h6 := h4.fr f5 (by simpa using HNE2.out)
    clear hw5
    obtain ⟨y0, y1, y2, y3, -⟩ := h6.cells4
    obtain ⟨z0, z1, z2, z3, z4, z5, z6, -⟩ := h5.cells7
    have hf5 : Fr [rb, zb] w1 w5 := (f4.mono (by simp)).trans (f5.mono (by simp))
    have hra := H1.out.frs hf5 HN3.out.1 HN3.out.2.1 HN3.out.2.2
    refine bodyPost_ret (v := .tuple #[refV gx cx gu cu gt ct s.l.length s.hand, zeroEn.v, .bool false]) (by simp [results, Try.results39, go_sem, y0, y1, y2, y3, z0, z1, z2, z3, z4, z5, z6, refV, zeroEn, En.v, ByteArray.empty, ByteArray.emptyWithCapacity]) rfl ⟨gx, cx, gu, cu, gt, ct, by rw [HLK.out]; exact rfl, by rw [HLK.out]; exact hra, HF1.out.weak hf5 (by simp; exact ⟨HWL.out.2.2.1, HWL.out.2.2.2⟩)⟩
  | some k =>
    obtain ⟨a, hk, hu, -⟩ := sfind_some hf
    have HKL := Hd.mk (List.getElem?_eq_some_iff.1 hk).1
    have hkl := HKL.out
    have hv : ratV s q = (k : Int) := by unfold ratV; rw [hf]; rfl
    rw [hv]
    have hlk : lookR s q now = if liveB a.x.expire now then (s.at k { a with touched := true }, a.x, true) else (s, zeroEn, false) := by unfold lookR; rw [hf]; simp only [hk]
    have hat : ({ a with touched := true } : Sl) = ⟨a.x, true, true⟩ := by rw [← hu]
    rw [hat] at hlk
    have HLK0 := Hd.mk hlk
    have HK := Hd.mk hk
    have cx6 := H1.out.ent hk 6 _ (by omega) rfl
    clear hf hv hk hu hlk hat
    cases hlv : liveB a.x.expire now with
    | false =>
      have HLK : Hd (lookR s q now = (s, zeroEn, false)) := Hd.mk (by rw [HLK0.out, hlv]; rfl)
      have hle : decide (a.x.expire ≤ now) = true := by unfold liveB at hlv; simpa using hlv
      clear hlv
      obtain ⟨d0, d1, d2, d3, df⟩ := HRB1.out.cells4
      obtain ⟨x0, x1, x2, x3, x4, x5, x6, xf⟩ := HZB1.out.cells7
      have hn1 : rb ≠ zb := HNE2.out
      have hn2 : zb ≠ rb := Ne.symm HNE2.out
      go_wp2
      refine ret_name ?_; intro w5 hw5
      obtain ⟨h4, f4⟩ := HRB1.out.four (a' := .slice (some ⟨gx, 0, none⟩) s.l.length cx) (b' := .slice (some ⟨gu, 0, none⟩) s.l.length cu) (c' := .slice (some ⟨gt, 0, none⟩) s.l.length ct) (d' := .int .i64 s.hand) rfl
      obtain ⟨h5, f5⟩ := Blk.seven (HZB1.out.fr f4 (by simpa using Ne.symm HNE2.out)) hw5
      have h6 := h4.fr f5 (by simpa using HNE2.out)
      clear hw5
      obtain ⟨y0, y1, y2, y3, -⟩ := h6.cells4
      obtain ⟨z0, z1, z2, z3, z4, z5, z6, -⟩ := h5.cells7
      have hf5 : Fr [rb, zb] w1 w5 := (f4.mono (by simp)).trans (f5.mono (by simp))
      have hra := H1.out.frs hf5 HN3.out.1 HN3.out.2.1 HN3.out.2.2
      refine bodyPost_ret (v := .tuple #[refV gx cx gu cu gt ct s.l.length s.hand, zeroEn.v, .bool false]) (by simp [results, Try.results39, go_sem, y0, y1, y2, y3, z0, z1, z2, z3, z4, z5, z6, refV, zeroEn, En.v, ByteArray.empty, ByteArray.emptyWithCapacity]) rfl ⟨gx, cx, gu, cu, gt, ct, by rw [HLK.out]; exact rfl, by rw [HLK.out]; exact hra, HF1.out.weak hf5 (by simp; exact ⟨HWL.out.2.2.1, HWL.out.2.2.2⟩)⟩
    | true =>
      have HLK : Hd (lookR s q now = (s.at k ⟨a.x, true, true⟩, a.x, true)) := Hd.mk (by rw [HLK0.out, hlv]; rfl)
      have hle : decide (a.x.expire ≤ now) = false := by unfold liveB at hlv; simpa using hlv
      clear hlv
      have HSB2 := HSB1
      have H2 := H1
      have HNE9 := HNE
      have HNE := HNE2
      have HH0 : Hd (Blk w1.drew rb 51 [.slice none 0 0, .slice none 0 0, .slice none 0 0, .int .i64 0] ∧ Blk w1.drew zb 29 [.string ⟨#[]⟩, .int .u16 0, .int .u16 0, .slice none 0 0, .int .i64 0, .int .i64 0, .int .u64 0]) := Hd.mk ⟨HRB1.out.drew, HZB1.out.drew⟩
      go_wp2_with fail
      clear b0 b1 b2 b3 bf cx6 hle
      refine wp_region_gs { R := Fr [rb, zb], R1 := Fr [], gs := [Is (.agg #[.slice (some ⟨gx, 0, none⟩) s.l.length cx, .slice (some ⟨gu, 0, none⟩) s.l.length cu, .slice (some ⟨gt, 0, none⟩) s.l.length ct, .int .i64 s.hand]), Is (.int .i64 k), Is (.pointer (some ⟨sb, 0, none⟩)), Is (.slice (some ⟨gx, 0, none⟩) s.l.length cx), Is (.int .i64 k), Is (.pointer (some ⟨gx, k * 7, none⟩)), Is (.agg #[.string a.x.q.name, .int .u16 a.x.q.ty, .int .u16 a.x.q.cl, .slice a.x.ra a.x.rn a.x.rc, .int .i64 a.x.rcode, .int .i64 a.x.rank, .int .u64 a.x.expire]), (fun (v : Value) (w2 : World) => ∃ gx' cx' gu' cu' gt' ct', v = refV gx' cx' gu' cu' gt' ct' s.l.length s.hand ∧ RefAt w2 gx' cx' gu' cu' gt' ct' (s.at k ⟨a.x, true, true⟩) ∧ NotIn gx' gu' gt' [rb, zb]), Is (.pointer (some ⟨sb, 0, none⟩)), Is (.slice (some ⟨gx, 0, none⟩) s.l.length cx), Is (.int .i64 k), Is (.pointer (some ⟨gx, k * 7, none⟩)), Is (.agg #[.string a.x.q.name, .int .u16 a.x.q.ty, .int .u16 a.x.q.cl, .slice a.x.ra a.x.rn a.x.rc, .int .i64 a.x.rcode, .int .i64 a.x.rank, .int .u64 a.x.expire]), No, No, Is (.bool true)], ds := [some 27, some 28, some 29, some 30, some 31, some 32, some 33, some 34, some 35, some 36, some 37, some 38, some 39, none, none, some 8], fl := [false, false, false, false, false, false, false, false, false, false, false, false, false, true, true, false], hs := [fun _ w2 => Blk w2 rb 51 [.slice none 0 0, .slice none 0 0, .slice none 0 0, .int .i64 0] ∧ Blk w2 zb 29 [.string ⟨#[]⟩, .int .u16 0, .int .u16 0, .slice none 0 0, .int .i64 0, .int .i64 0, .int .u64 0], fun _ w2 => (∃ gx' cx' gu' cu' gt' ct', Blk w2 rb 51 [.slice (some ⟨gx', 0, none⟩) s.l.length cx', .slice (some ⟨gu', 0, none⟩) s.l.length cu', .slice (some ⟨gt', 0, none⟩) s.l.length ct', .int .i64 s.hand] ∧ RefAt w2 gx' cx' gu' cu' gt' ct' (s.at k ⟨a.x, true, true⟩) ∧ NotIn gx' gu' gt' [rb, zb]) ∧ Blk w2 zb 29 [.string ⟨#[]⟩, .int .u16 0, .int .u16 0, .slice none 0 0, .int .i64 0, .int .i64 0, .int .u64 0], fun _ w2 => (∃ gx' cx' gu' cu' gt' ct', Blk w2 rb 51 [.slice (some ⟨gx', 0, none⟩) s.l.length cx', .slice (some ⟨gu', 0, none⟩) s.l.length cu', .slice (some ⟨gt', 0, none⟩) s.l.length ct', .int .i64 s.hand] ∧ RefAt w2 gx' cx' gu' cu' gt' ct' (s.at k ⟨a.x, true, true⟩) ∧ NotIn gx' gu' gt' [rb, zb]) ∧ Blk w2 zb 29 [.string a.x.q.name, .int .u16 a.x.q.ty, .int .u16 a.x.q.cl, .slice a.x.ra a.x.rn a.x.rc, .int .i64 a.x.rcode, .int .i64 a.x.rank, .int .u64 a.x.expire]], hd := [[], [], []] } [false, false, false, false, false, false, false, false, true, false, false, false, false, false, false, false, false, false, false, false, false, false, false, false, false, false, false, true, true, true, true, true, true, true, true, true, true, true, true, true] (by kernel_rfl) _ (by kernel_rfl) (by kernel_rfl) (by kernel_rfl) (by kernel_rfl) rfl [] (fun _ _ _ h1 h2 => h1.trans h2) (fun _ _ h => h.mono (by simp)) (staI (staI (staI (staI (staI (staI (staI (sta (fun v _ _ hf ⟨gx', cx', gu', cu', gt', ct', h1, h2, h3⟩ => ⟨gx', cx', gu', cu', gt', ct', h1, h2.frs hf h3.a h3.b h3.c, h3⟩) (staI (staI (staI (staI (staI (staN (staN (staI sta0)))))))))))))))) (sth (fun _ _ _ hf h => ⟨h.1.fr hf (by simp), h.2.fr hf (by simp)⟩) (sth (fun _ _ _ hf ⟨⟨gx', cx', gu', cu', gt', ct', h1, h2, h3⟩, h4⟩ => ⟨⟨gx', cx', gu', cu', gt', ct', h1.fr hf (by simp), h2.fr hf, h3⟩, h4.fr hf (by simp)⟩) (sth (fun _ _ _ hf ⟨⟨gx', cx', gu', cu', gt', ct', h1, h2, h3⟩, h4⟩ => ⟨⟨gx', cx', gu', cu', gt', ct', h1.fr hf (by simp), h2.fr hf, h3⟩, h4.fr hf (by simp)⟩) sth0))) (fun _ _ h => h.size) _ (Fr.refl _ _) HH0.out ?_ ?_
      · refine ⟨?_, ?_, ?_, ?_, ?_, ?_, ?_, ?_, ?_, ?_, ?_, ?_, ?_, ?_, ?_, ?_, trivial⟩
        · intro σ w' hR hd
          simp only [fill, Nat.reduceAdd, if_true, Bool.false_eq_true, if_false]
          clear hd
          have hfr := (Fr.drew (Fr.refl [rb, zb] _)).trans hR
          obtain ⟨b0, b1, b2, b3, bf⟩ := (HSB2.out.fr hfr HNS.out).cells4
          go_wp2
          exact ⟨Fr.refl _ _, rfl⟩
        · intro σ w' hR hd
          simp only [fill, Nat.reduceAdd, if_true, Bool.false_eq_true, if_false]
          clear hd
          go_wp2
          exact ⟨Fr.refl _ _, rfl⟩
        · intro σ w' hR hd
          simp only [fill, Nat.reduceAdd, if_true, Bool.false_eq_true, if_false]
          clear hd
          go_wp2
          exact ⟨Fr.refl _ _, rfl⟩
        · intro σ w' hR hd
          simp only [fill, Nat.reduceAdd, if_true, Bool.false_eq_true, if_false]
          obtain h29 : σ 29 = _ := hd 2 (by decide)
          rw [h29]
          clear h29
          clear hd
          have hfr := (Fr.drew (Fr.refl [rb, zb] _)).trans hR
          obtain ⟨b0, b1, b2, b3, bf⟩ := (HSB2.out.fr hfr HNS.out).cells4
          go_wp2
          exact ⟨Fr.refl _ _, rfl⟩
        · intro σ w' hR hd
          simp only [fill, Nat.reduceAdd, if_true, Bool.false_eq_true, if_false]
          clear hd
          go_wp2
          exact ⟨Fr.refl _ _, rfl⟩
        · intro σ w' hR hd
          simp only [fill, Nat.reduceAdd, if_true, Bool.false_eq_true, if_false]
          obtain h30 : σ 30 = _ := hd 3 (by decide)
          obtain h31 : σ 31 = _ := hd 4 (by decide)
          rw [h30, h31]
          clear h30 h31
          clear hd
          go_wp2
          exact ⟨Fr.refl _ _, rfl⟩
        · intro σ w' hR hd
          simp only [fill, Nat.reduceAdd, if_true, Bool.false_eq_true, if_false]
          obtain h32 : σ 32 = _ := hd 5 (by decide)
          rw [h32]
          clear h32
          clear hd
          have hfr := (Fr.drew (Fr.refl [rb, zb] _)).trans hR
          have hra := H2.out.frs hfr HN3.out.1 HN3.out.2.1 HN3.out.2.2
          have z0 := hra.ent HK.out 0 _ (by omega) rfl
          have z1 := hra.ent HK.out 1 _ (by omega) rfl
          have z2 := hra.ent HK.out 2 _ (by omega) rfl
          have z3 := hra.ent HK.out 3 _ (by omega) rfl
          have z4 := hra.ent HK.out 4 _ (by omega) rfl
          have z5 := hra.ent HK.out 5 _ (by omega) rfl
          have z6 := hra.ent HK.out 6 _ (by omega) rfl
          rw [Nat.add_zero] at z0
          go_wp2
          exact ⟨Fr.refl _ _, rfl⟩
        · intro σ w' hR hd
          simp only [fill, Nat.reduceAdd, if_true, Bool.false_eq_true, if_false]
          obtain h27 : σ 27 = _ := hd 0 (by decide)
          obtain h28 : σ 28 = _ := hd 1 (by decide)
          obtain h33 : σ 33 = _ := hd 6 (by decide)
          rw [h27, h28, h33]
          clear h27 h28 h33
          clear hd
          have hfr := (Fr.drew (Fr.refl [rb, zb] _)).trans hR
          have hra := Hd.mk (H2.out.frs hfr HN3.out.1 HN3.out.2.1 HN3.out.2.2)
          have hsz := Hd.mk hfr.size
          go_wp2_with fail
          refine (with_new hra.out k HKL.out a.x true true).mono ?_
          rintro r w4 ⟨gx', cx', gu', cu', gt', ct', rfl, h4, hf4, hn4⟩
          have H4 := Hd.mk h4
          have HF4 := Hd.mk hf4
          have HN4 : NotIn gx' gu' gt' [rb, zb] := (by have := hsz.out; have := HLT2.out; refine ⟨?_, ?_, ?_⟩ <;> simp only [List.mem_cons, List.not_mem_nil, or_false, not_or] <;> omega)
          clear h4 hf4 hn4
          go_wp2
          exact ⟨HF4.out, _, _, _, _, _, _, rfl, H4.out, HN4⟩
        · intro σ w' hR hd
          simp only [fill, Nat.reduceAdd, if_true, Bool.false_eq_true, if_false]
          clear hd
          go_wp2
          exact ⟨Fr.refl _ _, rfl⟩
        · intro σ w' hR hd
          simp only [fill, Nat.reduceAdd, if_true, Bool.false_eq_true, if_false]
          obtain h35 : σ 35 = _ := hd 8 (by decide)
          rw [h35]
          clear h35
          clear hd
          have hfr := (Fr.drew (Fr.refl [rb, zb] _)).trans hR
          obtain ⟨b0, b1, b2, b3, bf⟩ := (HSB2.out.fr hfr HNS.out).cells4
          go_wp2
          exact ⟨Fr.refl _ _, rfl⟩
        · intro σ w' hR hd
          simp only [fill, Nat.reduceAdd, if_true, Bool.false_eq_true, if_false]
          clear hd
          go_wp2
          exact ⟨Fr.refl _ _, rfl⟩
        · intro σ w' hR hd
          simp only [fill, Nat.reduceAdd, if_true, Bool.false_eq_true, if_false]
          obtain h36 : σ 36 = _ := hd 9 (by decide)
          obtain h37 : σ 37 = _ := hd 10 (by decide)
          rw [h36, h37]
          clear h36 h37
          clear hd
          go_wp2
          exact ⟨Fr.refl _ _, rfl⟩
        · intro σ w' hR hd
          simp only [fill, Nat.reduceAdd, if_true, Bool.false_eq_true, if_false]
          obtain h38 : σ 38 = _ := hd 11 (by decide)
          rw [h38]
          clear h38
          clear hd
          have hfr := (Fr.drew (Fr.refl [rb, zb] _)).trans hR
          have hra := H2.out.frs hfr HN3.out.1 HN3.out.2.1 HN3.out.2.2
          have z0 := hra.ent HK.out 0 _ (by omega) rfl
          have z1 := hra.ent HK.out 1 _ (by omega) rfl
          have z2 := hra.ent HK.out 2 _ (by omega) rfl
          have z3 := hra.ent HK.out 3 _ (by omega) rfl
          have z4 := hra.ent HK.out 4 _ (by omega) rfl
          have z5 := hra.ent HK.out 5 _ (by omega) rfl
          have z6 := hra.ent HK.out 6 _ (by omega) rfl
          rw [Nat.add_zero] at z0
          go_wp2
          exact ⟨Fr.refl _ _, rfl⟩
        · intro σ w' hR hd hH
          simp only [fill, Nat.reduceAdd, if_true, Bool.false_eq_true, if_false]
          obtain ⟨gx', cx', gu', cu', gt', ct', h34, h2', h3'⟩ : (fun (v : Value) (w2 : World) => ∃ gx' cx' gu' cu' gt' ct', v = refV gx' cx' gu' cu' gt' ct' s.l.length s.hand ∧ RefAt w2 gx' cx' gu' cu' gt' ct' (s.at k ⟨a.x, true, true⟩) ∧ NotIn gx' gu' gt' [rb, zb]) (σ 34) w' := hd 7 (by decide)
          clear hd
          obtain ⟨hb1, hb2⟩ : Blk w' rb 51 [.slice none 0 0, .slice none 0 0, .slice none 0 0, .int .i64 0] ∧ Blk w' zb 29 [.string ⟨#[]⟩, .int .u16 0, .int .u16 0, .slice none 0 0, .int .i64 0, .int .i64 0, .int .u64 0] := hH
          rw [h34]
          obtain ⟨d0, d1, d2, d3, df⟩ := hb1.cells4
          have HH2 := Hd.mk h2'
          have HH3 := h3'
          clear h34 h2' h3'
          unfold refV
          go_wp2
          obtain ⟨hq4, hf4⟩ := hb1.four rfl
          exact ⟨hf4.mono (by simp), trivial, ⟨⟨gx', cx', gu', cu', gt', ct', hq4, HH2.out.frs (hf4.mono (by simp)) HH3.a HH3.b HH3.c, HH3⟩, hb2.fr hf4 (by simpa using Ne.symm HNE.out)⟩⟩
        · intro σ w' hR hd hH
          simp only [fill, Nat.reduceAdd, if_true, Bool.false_eq_true, if_false]
          obtain h39 : σ 39 = _ := hd 12 (by decide)
          rw [h39]
          clear h39
          clear hd
          obtain ⟨⟨gx', cx', gu', cu', gt', ct', h1', h2', h3'⟩, hb2⟩ : (∃ gx' cx' gu' cu' gt' ct', Blk w' rb 51 [.slice (some ⟨gx', 0, none⟩) s.l.length cx', .slice (some ⟨gu', 0, none⟩) s.l.length cu', .slice (some ⟨gt', 0, none⟩) s.l.length ct', .int .i64 s.hand] ∧ RefAt w' gx' cx' gu' cu' gt' ct' (s.at k ⟨a.x, true, true⟩) ∧ NotIn gx' gu' gt' [rb, zb]) ∧ Blk w' zb 29 [.string ⟨#[]⟩, .int .u16 0, .int .u16 0, .slice none 0 0, .int .i64 0, .int .i64 0, .int .u64 0] := hH
          obtain ⟨d0, d1, d2, d3, d4, d5, d6, df⟩ := hb2.cells7
          have HH1 := Hd.mk h1'
          have HH2 := Hd.mk h2'
          have HH3 := h3'
          clear h1' h2' h3'
          go_wp2
          obtain ⟨hq4, hf4⟩ := hb2.seven rfl
          exact ⟨hf4.mono (by simp), trivial, ⟨⟨gx', cx', gu', cu', gt', ct', HH1.out.fr hf4 (by simpa using HNE.out), HH2.out.frs (hf4.mono (by simp)) HH3.a HH3.b HH3.c, HH3⟩, hq4⟩⟩
        · intro σ w' hR hd
          simp only [fill, Nat.reduceAdd, if_true, Bool.false_eq_true, if_false]
          clear hd
          go_wp2
          exact ⟨Fr.refl _ _, rfl⟩
      · intro σ w3 hR hG hH
        obtain h8 : σ 8 = _ := hG 15 (by decide)
        simp only [fill, Nat.reduceAdd, if_true, Bool.false_eq_true, if_false, h8]
        clear h8
        clear hG
        obtain ⟨⟨gx', cx', gu', cu', gt', ct', h1', h2', h3'⟩, hb2⟩ : (∃ gx' cx' gu' cu' gt' ct', Blk w3 rb 51 [.slice (some ⟨gx', 0, none⟩) s.l.length cx', .slice (some ⟨gu', 0, none⟩) s.l.length cu', .slice (some ⟨gt', 0, none⟩) s.l.length ct', .int .i64 s.hand] ∧ RefAt w3 gx' cx' gu' cu' gt' ct' (s.at k ⟨a.x, true, true⟩) ∧ NotIn gx' gu' gt' [rb, zb]) ∧ Blk w3 zb 29 [.string a.x.q.name, .int .u16 a.x.q.ty, .int .u16 a.x.q.cl, .slice a.x.ra a.x.rn a.x.rc, .int .i64 a.x.rcode, .int .i64 a.x.rank, .int .u64 a.x.expire] := hH
        have hfr := (Fr.drew (Fr.refl [rb, zb] _)).trans hR
        have HF3 := Hd.mk (HF1.out.weak hfr (by simp; exact ⟨HWL.out.2.2.1, HWL.out.2.2.2⟩))
        clear hR hfr
        obtain ⟨y0, y1, y2, y3, -⟩ := h1'.cells4
        obtain ⟨z0, z1, z2, z3, z4, z5, z6, -⟩ := hb2.cells7
        go_wp2_with fail
        refine bodyPost_ret (v := .tuple #[refV gx' cx' gu' cu' gt' ct' s.l.length s.hand, a.x.v, .bool true]) (by simp [results, Try.results39, go_sem, y0, y1, y2, y3, z0, z1, z2, z3, z4, z5, z6, refV, En.v, ByteArray.empty, ByteArray.emptyWithCapacity]) rfl ⟨gx', cx', gu', cu', gt', ct', by rw [HLK.out]; exact rfl, by rw [HLK.out]; exact h2', HF3.out⟩
end Go.Proofs.Ytjfhdffmlnkooaa
