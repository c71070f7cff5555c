import Derived.Test.YtnikhiegnledlaaM10
namespace Go.Proofs.Ytnikhiegnledlaa
open Go Go.RowKit Go.Proofs.MapL PPM Go.Proofs.YtnikhiegnledlaaW.PrintWords

theorem due_nil (now : Int) (w : World) : Calls Try.prog 21 #[.pointer none, .int .u64 now] w fun r w' => r = .returned (.slice none 0 0) ∧ Fr [] w w' := by
  go_enter Try.func21, Try.ntmps21
  go_wp2
  go_ret
  exact ⟨rfl, Fr.refl _ _⟩
set_option maxRecDepth 100000 in
set_option maxHeartbeats 2000000 in
theorem lookup_nil (q : Qn) (now : Int) (w : World) : Calls Try.prog 17 #[.pointer none, q.v, .int .u64 now] w fun r w' => r = .returned (.tuple #[zeroEn, .bool false]) ∧ Fr [] w w' := by
  unfold Qn.v
  go_enter Try.func17, Try.ntmps17
  go_wp2_with fail
  refine wp_name ?_
  intro w1 hw1
  have hF : Fr [] w w1 := by rw [hw1]; exact ((Fr.refl [] w).alloc _).alloc _
  have hbz : Blk w1.drew (w.heap.size + 1) 35 [.string ⟨#[]⟩, .int .u16 0, .int .u16 0, .slice none 0 0, .int .i64 0, .int .i64 0, .int .u64 0] := by
    rw [hw1]
    have h0 := Blk.new (w.alloc (.cells #[.string q.name, .int .u16 q.ty, .int .u16 q.cl] 25)) 35 [.string ⟨#[]⟩, .int .u16 0, .int .u16 0, .slice none 0 0, .int .i64 0, .int .i64 0, .int .u64 0]
    simp only [World.size_alloc] at h0
    exact h0
  clear hw1
  refine wp_region_gs { R := Fr [], R1 := Fr [], gs := [Is (.pointer none), Is (.bool true), Is (.bool true), No, No, No, No, No, No, No, No, No, No, Is (.bool true), Is (.bool true), No, No, No, No, Is (.bool true)], ds := [some 8, some 9, some 10, some 11, some 12, some 13, some 14, some 15, some 16, some 17, some 18, some 19, some 20, some 21, some 22, some 23, some 24, some 25, some 26, some 27], fl := [false, false, false, false, false, false, false, false, false, false, false, false, false, false, false, false, false, false, false, false], hs := [], hd := [] } [false, false, false, false, false, false, false, false, true, true, true, true, true, true, true, true, true, true, true, true, true, true, true, true, true, true, true, true, false, false, false, false, false, false, false] (by kernel_rfl) _ (by kernel_rfl) (by kernel_rfl) (by kernel_rfl) (by kernel_rfl) rfl [] (fun _ _ _ h1 h2 => h1.trans h2) (fun _ _ h => h) (staI (staI (staI (staN (staN (staN (staN (staN (staN (staN (staN (staN (staN (staI (staI (staN (staN (staN (staN (staI sta0)))))))))))))))))))) sth0 (fun _ _ h => h.size) _ (Fr.refl _ _) trivial ?_ ?_
  · refine ⟨?_, ?_, ?_, ?_, ?_, ?_, ?_, ?_, ?_, ?_, ?_, ?_, ?_, ?_, ?_, ?_, ?_, ?_, ?_, ?_, trivial⟩
    · intro σ w' hR hd
      simp only [fill, Nat.reduceAdd, if_true, Bool.false_eq_true, if_false]
      clear hd
      go_wp2
      exact ⟨Fr.refl _ _, rfl⟩
    · intro σ w' hR hd
      simp only [fill, Nat.reduceAdd, if_true, Bool.false_eq_true, if_false]
      obtain h8 : σ 8 = _ := hd 0 (by decide)
      rw [h8]
      clear h8
      clear hd
      go_wp2
      exact ⟨Fr.refl _ _, rfl⟩
    · intro σ w' hR hd
      simp only [fill, Nat.reduceAdd, if_true, Bool.false_eq_true, if_false]
      obtain h9 : σ 9 = _ := hd 1 (by decide)
      rw [h9]
      clear h9
      clear hd
      go_wp2
      exact ⟨Fr.refl _ _, rfl⟩
    · intro σ w' hR hd
      simp only [fill, Nat.reduceAdd, if_true, Bool.false_eq_true, if_false]
      obtain h10 : σ 10 = _ := hd 2 (by decide)
      rw [h10]
      clear h10
      clear hd
      go_wp2
      exact ⟨Fr.refl _ _, trivial⟩
    · intro σ w' hR hd
      simp only [fill, Nat.reduceAdd, if_true, Bool.false_eq_true, if_false]
      obtain h10 : σ 10 = _ := hd 2 (by decide)
      rw [h10]
      clear h10
      clear hd
      go_wp2
      exact ⟨Fr.refl _ _, trivial⟩
    · intro σ w' hR hd
      simp only [fill, Nat.reduceAdd, if_true, Bool.false_eq_true, if_false]
      obtain h10 : σ 10 = _ := hd 2 (by decide)
      rw [h10]
      clear h10
      clear hd
      go_wp2
      exact ⟨Fr.refl _ _, trivial⟩
    · intro σ w' hR hd
      simp only [fill, Nat.reduceAdd, if_true, Bool.false_eq_true, if_false]
      obtain h10 : σ 10 = _ := hd 2 (by decide)
      rw [h10]
      clear h10
      clear hd
      go_wp2
      exact ⟨Fr.refl _ _, trivial⟩
    · intro σ w' hR hd
      simp only [fill, Nat.reduceAdd, if_true, Bool.false_eq_true, if_false]
      obtain h10 : σ 10 = _ := hd 2 (by decide)
      rw [h10]
      clear h10
      clear hd
      go_wp2
      exact ⟨Fr.refl _ _, trivial⟩
    · intro σ w' hR hd
      simp only [fill, Nat.reduceAdd, if_true, Bool.false_eq_true, if_false]
      obtain h10 : σ 10 = _ := hd 2 (by decide)
      rw [h10]
      clear h10
      clear hd
      go_wp2
      exact ⟨Fr.refl _ _, trivial⟩
    · intro σ w' hR hd
      simp only [fill, Nat.reduceAdd, if_true, Bool.false_eq_true, if_false]
      obtain h10 : σ 10 = _ := hd 2 (by decide)
      rw [h10]
      clear h10
      clear hd
      go_wp2
      exact ⟨Fr.refl _ _, trivial⟩
    · intro σ w' hR hd
      simp only [fill, Nat.reduceAdd, if_true, Bool.false_eq_true, if_false]
      obtain h10 : σ 10 = _ := hd 2 (by decide)
      rw [h10]
      clear h10
      clear hd
      go_wp2
      exact ⟨Fr.refl _ _, trivial⟩
    · intro σ w' hR hd
      simp only [fill, Nat.reduceAdd, if_true, Bool.false_eq_true, if_false]
      obtain h10 : σ 10 = _ := hd 2 (by decide)
      rw [h10]
      clear h10
      clear hd
      go_wp2
      exact ⟨Fr.refl _ _, trivial⟩
    · intro σ w' hR hd
      simp only [fill, Nat.reduceAdd, if_true, Bool.false_eq_true, if_false]
      obtain h10 : σ 10 = _ := hd 2 (by decide)
      rw [h10]
      clear h10
      clear hd
      go_wp2
      exact ⟨Fr.refl _ _, trivial⟩
    · intro σ w' hR hd
      simp only [fill, Nat.reduceAdd, if_true, Bool.false_eq_true, if_false]
      obtain h10 : σ 10 = _ := hd 2 (by decide)
      rw [h10]
      clear h10
      clear hd
      go_wp2
      exact ⟨Fr.refl _ _, rfl⟩
    · intro σ w' hR hd
      simp only [fill, Nat.reduceAdd, if_true, Bool.false_eq_true, if_false]
      obtain h21 : σ 21 = _ := hd 13 (by decide)
      rw [h21]
      clear h21
      clear hd
      go_wp2
      exact ⟨Fr.refl _ _, rfl⟩
    · intro σ w' hR hd
      simp only [fill, Nat.reduceAdd, if_true, Bool.false_eq_true, if_false]
      obtain h22 : σ 22 = _ := hd 14 (by decide)
      rw [h22]
      clear h22
      clear hd
      go_wp2
      exact ⟨Fr.refl _ _, trivial⟩
    · intro σ w' hR hd
      simp only [fill, Nat.reduceAdd, if_true, Bool.false_eq_true, if_false]
      obtain h22 : σ 22 = _ := hd 14 (by decide)
      rw [h22]
      clear h22
      clear hd
      go_wp2
      exact ⟨Fr.refl _ _, trivial⟩
    · intro σ w' hR hd
      simp only [fill, Nat.reduceAdd, if_true, Bool.false_eq_true, if_false]
      obtain h22 : σ 22 = _ := hd 14 (by decide)
      rw [h22]
      clear h22
      clear hd
      go_wp2
      exact ⟨Fr.refl _ _, trivial⟩
    · intro σ w' hR hd
      simp only [fill, Nat.reduceAdd, if_true, Bool.false_eq_true, if_false]
      obtain h22 : σ 22 = _ := hd 14 (by decide)
      rw [h22]
      clear h22
      clear hd
      go_wp2
      exact ⟨Fr.refl _ _, trivial⟩
    · intro σ w' hR hd
      simp only [fill, Nat.reduceAdd, if_true, Bool.false_eq_true, if_false]
      obtain h22 : σ 22 = _ := hd 14 (by decide)
      rw [h22]
      clear h22
      clear hd
      go_wp2
      exact ⟨Fr.refl _ _, rfl⟩
  · intro σ w3 hR hG hH
    obtain h27 : σ 27 = _ := hG 19 (by decide)
    simp only [fill, Nat.reduceAdd, if_true, Bool.false_eq_true, if_false, h27]
    clear h27
    clear hG
    have hR1 : Fr [] w1.drew w3 := hR
    have hbz3 := hbz.fr hR1 (by simp)
    have hF3 : Fr [] w w3 := hF.drew.trans hR1
    clear hR1 hR
    obtain ⟨r0, r1, r2, r3, r4, r5, r6, rf⟩ := hbz3.cells7
    go_wp2_with fail
    refine ret_name ?_; intro w5 hw5
    obtain ⟨h5, f5⟩ := Blk.seven hbz3 hw5
    clear r0 r1 r2 r3 r4 r5 r6 rf hw5
    obtain ⟨r0, r1, r2, r3, r4, r5, r6, -⟩ := h5.cells7
    refine bodyPost_ret (v := .tuple #[zeroEn, .bool false]) (by simp [results, Try.results17, go_sem, r0, r1, r2, r3, r4, r5, r6, zeroEn]) rfl ⟨rfl, (hF3.weak f5 (by simp))⟩
/-- The same, of the next type. -/
def nextE (e : En) (h : 0 ≤ IntKind.u16.wrap (e.q.ty + 1) ∧ IntKind.u16.wrap (e.q.ty + 1) < 65536) : En := { e with q := ⟨e.q.name, IntKind.u16.wrap (e.q.ty + 1), e.q.cl, e.q.ok.1, h, e.q.ok.2.2⟩ }
theorem next_ok (e : En) : 0 ≤ IntKind.u16.wrap (e.q.ty + 1) ∧ IntKind.u16.wrap (e.q.ty + 1) < 65536 := by
  simp [IntKind.wrap, IntKind.bits, IntKind.signed]; omega
theorem next_ne (e : En) (h) : e.q ≠ (nextE e h).q := by
  intro he
  have h1 : e.q.ty = IntKind.u16.wrap (e.q.ty + 1) := congrArg Qn.ty he
  have := e.q.ok.2.1
  simp [IntKind.wrap, IntKind.bits, IntKind.signed] at h1
  omega
set_option maxRecDepth 100000 in
set_option maxHeartbeats 8000000 in
theorem nobody_calls (e : En) (now : Int) (w : World) : Calls Try.prog 7 #[e.v, .int .u64 now] w fun r w' => r = .returned (.bool true) ∧ Fr [] w w' := by
  obtain hty := next_ok e
  have hN := next_ne e hty
  have hF := (Fr.refl [] w).alloc (.cells #[.string e.q.name, .int .u16 e.q.ty, .int .u16 e.q.cl, .slice e.ra e.rn e.rc, .int .i64 e.rcode, .int .i64 e.rank, .int .u64 e.expire] 35)
  have he := Blk.new w 35 [.string e.q.name, .int .u16 e.q.ty, .int .u16 e.q.cl, .slice e.ra e.rn e.rc, .int .i64 e.rcode, .int .i64 e.rank, .int .u64 e.expire]
  unfold En.v
  rcases hlv : liveB e.expire now with _ | _
  · have h1 : decide (e.expire > now) = false := hlv
    have hC1 : insC [] 1 e now = 4 := by unfold insC; rw [hlv]; rfl
    have hI1 : insL [] 1 e now = [] := by unfold insL; rw [hC1]; rfl
    have hC2 : insC [] 1 (nextE e hty) now = 4 := by unfold insC; rw [show liveB (nextE e hty).expire now = false from hlv]; rfl
    have HC := Hd.mk (And.intro hC1 (And.intro hI1 hC2))
    clear hlv hC1 hI1 hC2 hN
    go_enter Try.func7, Try.ntmps7
    go_wp2_with fail
    refine (shown_calls _).mono ?_
    rintro r w2 ⟨rfl, hf2⟩
    have he2 := he.fr hf2 (by simp)
    have hF2 := hF.trans hf2
    clear he hF hf2
    obtain ⟨d0, d1, d2, d3, d4, d5, d6, df⟩ := he2.cells7
    go_wp2_with fail
    refine (lookup_nil e.q now _).mono ?_
    rintro r w3 ⟨rfl, hf3⟩
    have he3 := he2.fr hf3 (by simp)
    have hF3 := hF2.trans hf3
    clear d0 d1 d2 d3 d4 d5 d6 df he2 hF2 hf3
    unfold zeroEn
    go_upto_region 4 with (fail)
    refine wp_name ?_
    intro w33 hw33
    have hf33 : Fr [] w3 w33 := by rw [hw33]; exact (Fr.refl [] w3).alloc _
    have he33 := he3.fr hf33 (by simp)
    have hF33 := hF3.trans hf33
    clear hw33 he3 hF3 hf33
    go_wp2_with fail
    refine (new_calls 1 (by omega) _).mono ?_
    rintro r w4 ⟨p, b, rfl, hM4, hf4, hp, hb⟩
    have hb : w.heap.size ≤ b := by have := hF33.size; omega
    have he4 := he33.fr hf4 (by simp)
    have hne4 : w.heap.size ∉ [b] := by have := he33.lt; simp; omega
    have hwb := hne4
    have hF4 := hF33.trans hf4
    clear he33 hF33 hf4
    obtain ⟨d0, d1, d2, d3, d4, d5, d6, df⟩ := he4.cells7
    go_wp2_with fail
    obtain ⟨hC1, hI1, hC2⟩ := HC.out
    refine (insert_calls hM4 (by decide) e now).mono ?_
    rintro r w5 ⟨rfl, hM5, hf5⟩
    rw [hI1] at hM5
    rw [hC1]
    have he5 := he4.fr hf5 hne4
    have hF5 : Fr [] w w5 := hF4.weak hf5 (by simpa using hb)
    clear d0 d1 d2 d3 d4 d5 d6 df he4 hM4 hF4 hf5 hne4
    obtain ⟨d0, d1, d2, d3, d4, d5, d6, df⟩ := he5.cells7
    go_upto_region 7 with (fail)
    refine wp_name ?_
    intro w55 hw55
    have hf55 : Fr [] w5 w55 := by rw [hw55]; exact (Fr.refl [] w5).alloc _
    have hA6 : Blk w55 w5.heap.size 35 [.string e.q.name, .int .u16 e.q.ty, .int .u16 e.q.cl, .slice e.ra e.rn e.rc, .int .i64 e.rcode, .int .i64 e.rank, .int .u64 e.expire] := by rw [hw55]; exact Blk.new _ _ _
    have he55 := he5.fr hf55 (by simp)
    clear hw55 d0 d1 d2 d3 d4 d5 d6 df
    obtain ⟨d0, d1, d2, d3, d4, d5, d6, df⟩ := he55.cells7
    obtain ⟨x0, x1, x2, x3, x4, x5, x6, xf⟩ := hA6.cells7
    go_upto_region 8 with (fail)
    refine wp_name ?_
    intro w6 hw6
    have hB6 : Blk w6 w5.heap.size 35 [.string e.q.name, .int .u16 (IntKind.u16.wrap (e.q.ty + 1)), .int .u16 e.q.cl, .slice e.ra e.rn e.rc, .int .i64 e.rcode, .int .i64 e.rank, .int .u64 e.expire] := by rw [hw6]; exact hA6.set 1 _
    have hf6 : Fr [] w5 w6 := by
      rw [hw6]
      exact hf55.weak (fr_set (b := w5.heap.size)) (by simp)
    clear he55 hf55 x0 x1 x2 x3 x4 x5 x6 xf
    clear hw6 hA6
    have hM6 := hM5.fr hf6 (by simp) (by simp)
    have he6 := he5.fr hf6 (by simp)
    have hF6 := hF5.trans hf6
    have hne6 : w.heap.size ∉ [b] := hwb
    clear d0 d1 d2 d3 d4 d5 d6 df he5 hM5 hF5 hf6
    obtain ⟨d0, d1, d2, d3, d4, d5, d6, df⟩ := hB6.cells7
    go_wp2_with fail
    refine (insert_calls hM6 (by first | decide | (show 1 < maxLen; decide)) (nextE e hty) now).mono ?_
    rintro r w7 ⟨rfl, hM7, hf7⟩
    rw [hC2]
    have he7 := he6.fr hf7 hne6
    have hF7 : Fr [] w w7 := hF6.weak hf7 (by simpa using hb)
    clear d0 d1 d2 d3 d4 d5 d6 df he6 hM6 hF6 hf7 hne6 hM7 hB6
    obtain ⟨d0, d1, d2, d3, d4, d5, d6, df⟩ := he7.cells7
    go_wp2_with fail
    refine (insert_nil e now _).mono ?_
    rintro r w8 ⟨rfl, hf8⟩
    have he8 := he7.fr hf8 (by simp)
    have hF8 := hF7.trans hf8
    clear d0 d1 d2 d3 d4 d5 d6 df he7 hF7 hf8
    obtain ⟨d0, d1, d2, d3, d4, d5, d6, df⟩ := he8.cells7
    go_wp2_with fail
    refine (drop_nil e.q _).mono ?_
    rintro r w9 ⟨rfl, hf9⟩
    have he9 := he8.fr hf9 (by simp)
    have hF9 := hF8.trans hf9
    clear d0 d1 d2 d3 d4 d5 d6 df he8 hF8 hf9
    obtain ⟨d0, d1, d2, d3, d4, d5, d6, df⟩ := he9.cells7
    go_wp2_with fail
    refine (has_nil e.q _).mono ?_
    rintro r w10 ⟨rfl, hf10⟩
    have hF10 := hF9.trans hf10
    clear d0 d1 d2 d3 d4 d5 d6 df he9 hF9 hf10
    go_wp2_with fail
    refine (len_nil _).mono ?_
    rintro r w11 ⟨rfl, rfl⟩
    go_wp2_with fail
    refine (full_nil _).mono ?_
    rintro r w12 ⟨rfl, hf12⟩
    have hF12 := hF10.trans hf12
    clear hF10 hf12
    go_wp2_with fail
    refine (due_nil now _).mono ?_
    rintro r w13 ⟨rfl, hf13⟩
    have HF13 := Hd.mk (hF12.trans hf13)
    clear hF12 hf13
    go_wp2
    go_ret
    exact ⟨rfl, HF13.out⟩
  · have h1 : decide (e.expire > now) = true := hlv
    have hC1 : insC [] 1 e now = 0 := by unfold insC; rw [hlv]; rfl
    have hI1 : insL [] 1 e now = [e] := by unfold insL; rw [hC1]; rfl
    have hC2 : insC [e] 1 (nextE e hty) now = 5 := by
      unfold insC
      rw [show liveB (nextE e hty).expire now = true from hlv]
      have : findE [e] (nextE e hty).q = none := by
        unfold findE
        simp only [List.find?_cons, List.find?_nil]
        rw [decide_eq_false hN]
      rw [this]; rfl
    have HC := Hd.mk (And.intro hC1 (And.intro hI1 hC2))
    clear hlv hC1 hI1 hC2 hN
    go_enter Try.func7, Try.ntmps7
    go_wp2_with fail
    refine (shown_calls _).mono ?_
    rintro r w2 ⟨rfl, hf2⟩
    have he2 := he.fr hf2 (by simp)
    have hF2 := hF.trans hf2
    clear he hF hf2
    obtain ⟨d0, d1, d2, d3, d4, d5, d6, df⟩ := he2.cells7
    go_wp2_with fail
    refine (lookup_nil e.q now _).mono ?_
    rintro r w3 ⟨rfl, hf3⟩
    have he3 := he2.fr hf3 (by simp)
    have hF3 := hF2.trans hf3
    clear d0 d1 d2 d3 d4 d5 d6 df he2 hF2 hf3
    unfold zeroEn
    go_upto_region 4 with (fail)
    refine wp_name ?_
    intro w33 hw33
    have hf33 : Fr [] w3 w33 := by rw [hw33]; exact (Fr.refl [] w3).alloc _
    have he33 := he3.fr hf33 (by simp)
    have hF33 := hF3.trans hf33
    clear hw33 he3 hF3 hf33
    go_wp2_with fail
    refine (new_calls 1 (by omega) _).mono ?_
    rintro r w4 ⟨p, b, rfl, hM4, hf4, hp, hb⟩
    have hb : w.heap.size ≤ b := by have := hF33.size; omega
    have he4 := he33.fr hf4 (by simp)
    have hne4 : w.heap.size ∉ [b] := by have := he33.lt; simp; omega
    have hwb := hne4
    have hF4 := hF33.trans hf4
    clear he33 hF33 hf4
    obtain ⟨d0, d1, d2, d3, d4, d5, d6, df⟩ := he4.cells7
    go_wp2_with fail
    obtain ⟨hC1, hI1, hC2⟩ := HC.out
    refine (insert_calls hM4 (by decide) e now).mono ?_
    rintro r w5 ⟨rfl, hM5, hf5⟩
    rw [hI1] at hM5
    rw [hC1]
    have he5 := he4.fr hf5 hne4
    have hF5 : Fr [] w w5 := hF4.weak hf5 (by simpa using hb)
    clear d0 d1 d2 d3 d4 d5 d6 df he4 hM4 hF4 hf5 hne4
    obtain ⟨d0, d1, d2, d3, d4, d5, d6, df⟩ := he5.cells7
    go_upto_region 7 with (fail)
    refine wp_name ?_
    intro w55 hw55
    have hf55 : Fr [] w5 w55 := by rw [hw55]; exact (Fr.refl [] w5).alloc _
    have hA6 : Blk w55 w5.heap.size 35 [.string e.q.name, .int .u16 e.q.ty, .int .u16 e.q.cl, .slice e.ra e.rn e.rc, .int .i64 e.rcode, .int .i64 e.rank, .int .u64 e.expire] := by rw [hw55]; exact Blk.new _ _ _
    have he55 := he5.fr hf55 (by simp)
    clear hw55 d0 d1 d2 d3 d4 d5 d6 df
    obtain ⟨d0, d1, d2, d3, d4, d5, d6, df⟩ := he55.cells7
    obtain ⟨x0, x1, x2, x3, x4, x5, x6, xf⟩ := hA6.cells7
    go_upto_region 8 with (fail)
    refine wp_name ?_
    intro w6 hw6
    have hB6 : Blk w6 w5.heap.size 35 [.string e.q.name, .int .u16 (IntKind.u16.wrap (e.q.ty + 1)), .int .u16 e.q.cl, .slice e.ra e.rn e.rc, .int .i64 e.rcode, .int .i64 e.rank, .int .u64 e.expire] := by rw [hw6]; exact hA6.set 1 _
    have hf6 : Fr [] w5 w6 := by
      rw [hw6]
      exact hf55.weak (fr_set (b := w5.heap.size)) (by simp)
    clear he55 hf55 x0 x1 x2 x3 x4 x5 x6 xf
    clear hw6 hA6
    have hM6 := hM5.fr hf6 (by simp) (by simp)
    have he6 := he5.fr hf6 (by simp)
    have hF6 := hF5.trans hf6
    have hne6 : w.heap.size ∉ [b] := hwb
    clear d0 d1 d2 d3 d4 d5 d6 df he5 hM5 hF5 hf6
    obtain ⟨d0, d1, d2, d3, d4, d5, d6, df⟩ := hB6.cells7
    go_wp2_with fail
    refine (insert_calls hM6 (by first | decide | (show 1 < maxLen; decide)) (nextE e hty) now).mono ?_
    rintro r w7 ⟨rfl, hM7, hf7⟩
    rw [hC2]
    have he7 := he6.fr hf7 hne6
    have hF7 : Fr [] w w7 := hF6.weak hf7 (by simpa using hb)
    clear d0 d1 d2 d3 d4 d5 d6 df he6 hM6 hF6 hf7 hne6 hM7 hB6
    obtain ⟨d0, d1, d2, d3, d4, d5, d6, df⟩ := he7.cells7
    go_wp2_with fail
    refine (insert_nil e now _).mono ?_
    rintro r w8 ⟨rfl, hf8⟩
    have he8 := he7.fr hf8 (by simp)
    have hF8 := hF7.trans hf8
    clear d0 d1 d2 d3 d4 d5 d6 df he7 hF7 hf8
    obtain ⟨d0, d1, d2, d3, d4, d5, d6, df⟩ := he8.cells7
    go_wp2_with fail
    refine (drop_nil e.q _).mono ?_
    rintro r w9 ⟨rfl, hf9⟩
    have he9 := he8.fr hf9 (by simp)
    have hF9 := hF8.trans hf9
    clear d0 d1 d2 d3 d4 d5 d6 df he8 hF8 hf9
    obtain ⟨d0, d1, d2, d3, d4, d5, d6, df⟩ := he9.cells7
    go_wp2_with fail
    refine (has_nil e.q _).mono ?_
    rintro r w10 ⟨rfl, hf10⟩
    have hF10 := hF9.trans hf10
    clear d0 d1 d2 d3 d4 d5 d6 df he9 hF9 hf10
    go_wp2_with fail
    refine (len_nil _).mono ?_
    rintro r w11 ⟨rfl, rfl⟩
    go_wp2_with fail
    refine (full_nil _).mono ?_
    rintro r w12 ⟨rfl, hf12⟩
    have hF12 := hF10.trans hf12
    clear hF10 hf12
    go_wp2_with fail
    refine (due_nil now _).mono ?_
    rintro r w13 ⟨rfl, hf13⟩
    have HF13 := Hd.mk (hF12.trans hf13)
    clear hF12 hf13
    go_wp2
    go_ret
    exact ⟨rfl, HF13.out⟩
end Go.Proofs.Ytnikhiegnledlaa
