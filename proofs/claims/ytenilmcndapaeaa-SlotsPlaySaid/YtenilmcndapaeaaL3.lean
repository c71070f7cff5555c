import Derived.Test.YtenilmcndapaeaaL3a
namespace Go.Proofs.Ytenilmcndapaeaa
open Go.RowKit

set_option maxRecDepth 100000 in
set_option maxHeartbeats 8000000 in
theorem play_in {w : World} {v : Value} {ds : List Dd} (h : DeedsAt w v ds) (n : Nat) (hn1 : 1 ≤ n) (hn2 : n ≤ 64) :
    Calls Try.prog 3 #[.int .i64 n, v] w fun e w' => e = .returned (.bool true) ∧ Fr [] w w' := by
  go_enter Try.func3, Try.ntmps3
  go_wp2_with fail
  refine (shown_any w).mono ?_
  rintro e w1 ⟨rfl, f1⟩
  replace h := h.fr f1
  have hs1 := f1.size
  go_wp2_with fail
  refine (new_yes n hn1 hn2 w1).mono ?_
  rintro e w2 ⟨p, b, rfl, h2, f2, hp, hb⟩
  have F2 := f1.trans f2
  clear f1
  go_wp2_with fail
  refine (rnew_any n hn1 hn2 w2).mono ?_
  rintro e w3 ⟨gx, cx, gu, cu, gt, ct, rfl, h3, f3, -⟩
  have F13 := f2.trans f3
  replace h2 := h2.fr f3 (by simp) (by simp)
  have F3 := F2.trans f3
  clear F2 f2 f3
  have hlp := h2.own.lt
  have hlb := h2.row.lt
  have hz3 := F3.size
  have hz13 := F13.size
  have hw3 : w3.heap.size ∉ [p, b] := by simp; omega
  generalize hY : w3.heap.size = Y at hw3 hz3 hz13
  have HY := hid hY
  unfold refV
  have hB : Blk (w3.alloc (.cells #[.slice (some ⟨gx, 0, none⟩) n cx, .slice (some ⟨gu, 0, none⟩) n cu, .slice (some ⟨gt, 0, none⟩) n ct, .int .i64 0] 30)) Y 30 [.slice (some ⟨gx, 0, none⟩) n cx, .slice (some ⟨gu, 0, none⟩) n cu, .slice (some ⟨gt, 0, none⟩) n ct, .int .i64 0] := by rw [← HY.out]; exact Blk.new _ _ _
  rcases h with ⟨-, ao, c, rfl⟩ | ⟨vb, off, c, rfl, hpos, hle, hvb, hcells⟩
  · go_wp2_with fail
    refine wp_loop_rounds 1 ?_; rw [rounds_succ]
    go_wp2
    go_ret
    exact ⟨rfl, F3.alloc _⟩
  · go_wp2_with fail
    go_loopw [8] (fun i wr => ∃ (k : Nat) (s : SS) (gx cx gu cu gt ct : Nat), i = .int .i64 k ∧ k ≤ ds.length ∧ SlotsAt wr p b s ∧ s.l.length = n ∧ RefAt wr gx cx gu cu gt ct s ∧
      Blk wr Y 30 [.slice (some ⟨gx, 0, none⟩) s.l.length cx, .slice (some ⟨gu, 0, none⟩) s.l.length cu, .slice (some ⟨gt, 0, none⟩) s.l.length ct, .int .i64 s.hand] ∧ Fr [] w1 wr ∧ Fr [] w wr) (fun i _ => ds.length - (intOf i).toNat)
    case atStart =>
      refine ⟨0, SS.fresh n, gx, cx, gu, cu, gt, ct, rfl, Nat.zero_le _, h2.fr ((Fr.refl [] w3).alloc _) (by simp) (by simp), by simp [SS.fresh], h3.fr ((Fr.refl [] w3).alloc _) (by simp) (by simp) (by simp), ?_, F13.alloc _, F3.alloc _⟩
      simpa [SS.fresh] using hB
    case round =>
      clear h2 h3 F3 F13 hB HY hY
      obtain ⟨k, s, gx, cx, gu, cu, gt, ct, rfl, hk, hs, hsn, ht, hbx, hfr3, hfr⟩ := hrel
      have HN := hid hsn
      clear hsn
      obtain ⟨t, ht0⟩ : ∃ t : SS, t = s := ⟨_, rfl⟩
      have HT := hid ht0
      clear ht0
      have hbx0 := hbx
      rw [← HT.out] at ht hbx
      obtain ⟨hn1, hn2, hn3⟩ := hs.refl_ne ht
      have hYn : Y ∉ [p, b] := hw3
      by_cases hlt : k < ds.length
      · by_cases h300 : k < 300
        · obtain ⟨hc0, hc1, hc2⟩ := hcells k hlt
          have hc0 := hfr3.cell hc0 (by simp)
          have hc1 := hfr3.cell hc1 (by simp)
          have hc2 := hfr3.cell hc2 (by simp)
          have hvbn : vb ∉ [p, b] := by simp; omega
          have hvbl : vb < wr.heap.size := Nat.lt_of_lt_of_le hvb hfr3.size
          have hlp' := hs.own.lt
          have hlb' := hs.row.lt
          go_upto_region 9 with (fail)
          have hs0 : (doCtx p b s t ds[k] wr.heap.size (refV gx cx gu cu gt ct t.l.length t.hand) (.slice (some ⟨vb, off, none⟩) ds.length c) (.pointer (some ⟨vb, off + k * 3, none⟩)) k [43, 44, 45, 46, 47, 48, 49, 42, 50, 51, 9, 10]).H 0 [] wr.drew := hs.fr (Fr.drew (Fr.refl [] wr)) (by simp) (by simp)
          refine wp_region_psteps (doCtx p b s t ds[k] wr.heap.size (refV gx cx gu cu gt ct t.l.length t.hand) (.slice (some ⟨vb, off, none⟩) ds.length c) (.pointer (some ⟨vb, off + k * 3, none⟩)) k [43, 44, 45, 46, 47, 48, 49, 42, 50, 51, 9, 10]) [false, false, false, false, false, false, false, false, false, true, true, false, false, false, false, false, false, false, false, false, false, false, false, false, false, false, false, false, false, false, false, false, false, false, false, false, false, false, false, false, false, false, true, true, true, true, true, true, true, true, true, true, false, false, false, false, false, false, false, false, false, false, false, false, false, false, false, false, false, false, false, false, false, false, false, false, false, false] (by kernel_rfl) _ (by kernel_rfl) (by kernel_rfl) (by kernel_rfl) (by kernel_rfl) [] (fun _ _ _ h1 h2 => h1.trans h2) (fun _ _ h => FrT.of (h.mono (by simp))) doG_stable doH_stable (fun _ _ h => h.size) _ (FrT.of (Fr.refl _ _)) hs0 ?_ ?_
          · clear hcells
            refine ⟨?_, ?_, ?_, ?_, ?_, ?_, ?_, ?_, ?_, ?_, ?_, ?_, ?_, trivial⟩
            all_goals intro σ w' hR hd hH
            all_goals simp only [fill, Nat.reduceAdd, if_true, Bool.false_eq_true, if_false]
            · go_wp2
              exact ⟨FrT.of (Fr.refl _ _), rfl, fun h => (Bool.false_ne_true h).elim, fun _ => Fr.refl _ _, fun h => (Bool.false_ne_true h).elim⟩
            · obtain ⟨b0, b1, b2, b3, -⟩ := (hbx.drew.frT hR hYn (.inl hbx.lt)).cells4
              go_wp2
              exact ⟨FrT.of (Fr.refl _ _), rfl, fun h => (Bool.false_ne_true h).elim, fun _ => Fr.refl _ _, fun h => (Bool.false_ne_true h).elim⟩
            · go_wp2
              exact ⟨FrT.of (Fr.refl _ _), rfl, fun h => (Bool.false_ne_true h).elim, fun _ => Fr.refl _ _, fun h => (Bool.false_ne_true h).elim⟩
            · go_wp2
              exact ⟨FrT.of (Fr.refl _ _), rfl, fun h => (Bool.false_ne_true h).elim, fun _ => Fr.refl _ _, fun h => (Bool.false_ne_true h).elim⟩
            · obtain h1 : σ 45 = _ := hd 2 (by decide)
              obtain h2 : σ 46 = _ := hd 3 (by decide)
              rw [h1, h2]
              clear h1 h2 hd hH
              go_wp2
              exact ⟨FrT.of (Fr.refl _ _), rfl, fun h => (Bool.false_ne_true h).elim, fun _ => Fr.refl _ _, fun h => (Bool.false_ne_true h).elim⟩
            · obtain h1 : σ 47 = _ := hd 4 (by decide)
              rw [h1]
              clear h1 hd hH
              have c0 := hR.cell (a := ⟨vb, off + k * 3, none⟩) hc0 hvbn hvbl
              have c1 := hR.cell (a := ⟨vb, off + k * 3 + 1, none⟩) hc1 hvbn hvbl
              have c2 := hR.cell (a := ⟨vb, off + k * 3 + 2, none⟩) hc2 hvbn hvbl
              go_wp2
              exact ⟨FrT.of (Fr.refl _ _), rfl, fun h => (Bool.false_ne_true h).elim, fun _ => Fr.refl _ _, fun h => (Bool.false_ne_true h).elim⟩
            · obtain h1 : σ 43 = _ := hd 0 (by decide)
              obtain h2 : σ 44 = _ := hd 1 (by decide)
              obtain h3 : σ 48 = _ := hd 5 (by decide)
              rw [h1, h2, h3]
              have hsw : SlotsAt w' p b s := hH rfl
              have htw := (ht.fr (Fr.drew (Fr.refl [] wr)) (by simp) (by simp) (by simp)).frT hR hn1 hn2 hn3
              clear h1 h2 h3 hd hH
              go_wp2_with fail
              refine (do_any hsw htw ds[k]).mono ?_
              rintro e w2 ⟨gx', cx', gu', cu', gt', ct', r, rfl, hs2, hr2, hst, hf2⟩
              go_wp2_with fail
              exact ⟨FrT.of hf2, ⟨gx', cx', gu', cu', gt', ct', r, rfl, hr2, hs2.refl_ne hr2, hst⟩, fun _ => hs2, fun h => (Bool.false_ne_true h.symm).elim, fun h => (Bool.false_ne_true h).elim⟩
            · obtain ⟨gx', cx', gu', cu', gt', ct', r, h1, h2⟩ : DoV p b w' s t ds[k] (σ 49) := hd 6 (by decide)
              rw [h1]
              clear h1 hd hH
              go_wp2
              exact ⟨FrT.of (Fr.refl _ _), ⟨gx', cx', gu', cu', gt', ct', r, rfl, h2⟩, fun h => (Bool.false_ne_true h).elim, fun _ => Fr.refl _ _, fun h => (Bool.false_ne_true h).elim⟩
            · obtain ⟨gx', cx', gu', cu', gt', ct', r, h1, h2, h3, h4⟩ : DoV p b w' s t ds[k] (σ 42) := hd 7 (by decide)
              rw [h1]
              clear h1 hd hH
              go_wp2
              exact ⟨FrT.of (Fr.refl _ _), ⟨gx', cx', gu', cu', gt', ct', rfl, h2, h3⟩, fun h => (Bool.false_ne_true h).elim, fun _ => Fr.refl _ _, fun h => (Bool.false_ne_true h).elim⟩
            · obtain ⟨gx', cx', gu', cu', gt', ct', r, h1, h2, h3, h4⟩ : DoV p b w' s t ds[k] (σ 42) := hd 7 (by decide)
              rw [h1]
              clear h1 hd hH
              go_wp2
              exact ⟨FrT.of (Fr.refl _ _), ⟨r, rfl, h4⟩, fun h => (Bool.false_ne_true h).elim, fun _ => Fr.refl _ _, fun h => (Bool.false_ne_true h).elim⟩
            · have hz := hR.size
              simp only [World.size_drew] at hz
              go_wp2
              exact ⟨FrT.of ((Fr.refl _ _).alloc _), ⟨_, rfl, hz, by simp; omega, _, rfl, Blk.new _ _ _⟩, fun h => (Bool.false_ne_true h).elim, fun _ => (Fr.refl _ _).alloc _, fun h => (Bool.false_ne_true h).elim⟩
            · obtain ⟨q, h1, hq, hqn, cs, hcl, hqb⟩ : ∃ q, σ 9 = .pointer (some ⟨q, 0, none⟩) ∧ wr.heap.size ≤ q ∧ q ∉ [p, b] ∧ BlkN w' q 30 4 := hd 10 (by decide)
              obtain ⟨gx', cx', gu', cu', gt', ct', h2, h3, h4⟩ : RefVal p b w' (t.does ds[k]) (σ 50) := hd 8 (by decide)
              have hsw : SlotsAt w' p b (s.does ds[k]) := hH rfl
              match cs, hcl, hqb with
              | [e0, e1, e2, e3], _, hqb =>
              rw [h1, h2]
              obtain ⟨r0, r1, r2, r3, rf⟩ := hqb.cells4
              clear hd hH
              unfold refV
              go_wp2
              clear r0 r1 r2 r3 rf
              obtain ⟨hq2, hfq⟩ := hqb.four (a' := .slice (some ⟨gx', 0, none⟩) (t.does ds[k]).l.length cx') (b' := .slice (some ⟨gu', 0, none⟩) (t.does ds[k]).l.length cu') (c' := .slice (some ⟨gt', 0, none⟩) (t.does ds[k]).l.length ct') (d' := .int .i64 (t.does ds[k]).hand) rfl
              have hFT : FrT wr.heap.size [p, b] 30 w' _ := FrT.set hfq hq hqb hq2 rfl
              simp only [List.mem_cons, List.not_mem_nil, or_false, not_or] at hqn
              have hs2 := hsw.fr hfq (by simpa using Ne.symm hqn.1) (by simpa using Ne.symm hqn.2)
              exact ⟨hFT, trivial, fun _ => ⟨hs2, q, rfl, hq, ⟨gx', cx', gu', cu', gt', ct', rfl, h3.frT hFT h4.1 h4.2.1 h4.2.2, h4⟩, hq2⟩, fun h => (Bool.false_ne_true h.symm).elim, fun h => (Bool.false_ne_true h).elim⟩
            · obtain ⟨r, h1, h2⟩ : ∃ r, σ 51 = .bool r ∧ (s = t → r = true) := hd 9 (by decide)
              rw [h1]
              clear h1 hd hH
              go_wp2
              exact ⟨FrT.of (Fr.refl _ _), ⟨r, rfl, h2⟩, fun h => (Bool.false_ne_true h).elim, fun _ => Fr.refl _ _, fun h => (Bool.false_ne_true h).elim⟩
          · intro σ w' hR hf hH hne
            simp only [fill, Nat.reduceAdd, if_true, Bool.false_eq_true, if_false]
            obtain ⟨hs2, q, h6, hq, ⟨gx', cx', gu', cu', gt', ct', h28, h29, h30⟩, hqb⟩ : SlotsAt w' p b (s.does ds[k]) ∧ ∃ q, σ 9 = .pointer (some ⟨q, 0, none⟩) ∧ wr.heap.size ≤ q ∧ RefVal p b w' (t.does ds[k]) (σ 50) ∧ Blk w' q 30 (refCells (σ 50)) := hH
            obtain ⟨rr, h10, hsame⟩ : ∃ r, σ 10 = .bool r ∧ (s = t → r = true) := hf 12 (by decide)
            have hrr := hsame HT.out.symm
            subst hrr
            rw [h28] at hqb
            have hqb : Blk w' q 30 [.slice (some ⟨gx', 0, none⟩) (t.does ds[k]).l.length cx', .slice (some ⟨gu', 0, none⟩) (t.does ds[k]).l.length cu', .slice (some ⟨gt', 0, none⟩) (t.does ds[k]).l.length ct', .int .i64 (t.does ds[k]).hand] := hqb
            rw [h6, h10]
            rw [HT.out] at hqb h29
            have hbx2 := hbx0.drew.frT hR hYn (.inl hbx0.lt)
            have hqY : q ≠ Y := by have := hbx.lt; omega
            have F2 : Fr [p, b] wr w' := (Fr.drew (Fr.refl _ _)).trans (hR.fr (Nat.le_refl _))
            have hlen2 : (s.does ds[k]).l.length = n := by rw [does_len]; exact HN.out
            generalize s.does ds[k] = s2 at *
            clear hf hne h6 h10 hsame h28 hs ht hbx hbx0 hs0 HN HT hn1 hn2 hn3 hc0 hc1 hc2 hcells hR
            have HN := hid hlen2
            clear hlen2
            obtain ⟨r0, r1, r2, r3, rf⟩ := hqb.cells4
            obtain ⟨b0, b1, b2, b3, bf⟩ := hbx2.cells4
            go_upto_region 11 with (fail)
            clear b0 b1 b2 b3 bf r0 r1 r2 r3 rf
            have hF0 := hfr.weak F2 (by simp; omega)
            have hF30 := hfr3.weak F2 (by simp; omega)
            refine wp_name ?_; intro wx hwx
            obtain ⟨hbx3, f3⟩ := hbx2.four hwx
            clear hwx
            have m1 : gx' ≠ Y := own_ne h29.x hbx2 (by decide) gx' rfl
            have m2 : gu' ≠ Y := own_ne h29.u hbx2 (by decide) gu' rfl
            have m3 : gt' ≠ Y := own_ne h29.t hbx2 (by decide) gt' rfl
            simp only [List.mem_cons, List.not_mem_nil, or_false, not_or] at hYn
            have hpY : p ≠ Y := Ne.symm hYn.1
            have hbY : b ≠ Y := Ne.symm hYn.2
            have hs := hs2.fr f3 (by simpa using hpY) (by simpa using hbY)
            have ht := h29.fr f3 (by simpa using m1) (by simpa using m2) (by simpa using m3)
            have hF := hF0.weak f3 (by simp; omega)
            have hF3 := hF30.weak f3 (by simp; omega)
            have hbx := hbx3
            clear hs2 h29 hbx2 hbx3 f3 hqb F2 hfr hfr3 hF0 hF30
            generalize hS : s2 = s at *
            clear hS
            generalize gx' = gx at *
            generalize cx' = cx at *
            generalize gu' = gu at *
            generalize cu' = cu at *
            generalize gt' = gt at *
            generalize ct' = ct at *
            clear hlp' hlb' hvbl
            generalize wx = wr at *
            refine ask_region hs ht hbx n HN.out _ _ _ _ _ _ _ _ _ _ _ _ _ _ _ _ _ _ _ _ _ _ _ _ _ _ _ _ _ _ _ _ _ _ _ _ _ _ _ _ _ _ _ _ _ _ _ _ _ _ _ _ _ _ _ _ _ _ _ _ _ _ _ _ _ _ _ _ _ _ _ _ _ _ ?_
            · intro σ w' f4 e0
              simp only [fill, Nat.reduceAdd, if_true, Bool.false_eq_true, if_false]
              rw [e0]
              clear e0
              go_wp2_with fail
              go_roundw
              case rel => exact ⟨k + 1, s, gx, cx, gu, cu, gt, ct, by go_num, by omega, hs.fr f4 (by simp) (by simp), HN.out, ht.fr f4 (by simp) (by simp) (by simp), hbx.fr f4 (by simp), hF3.trans f4, hF.trans f4⟩
              case measure => simp [intOf]; omega
        · go_wp2_with fail
          go_ret
          exact ⟨rfl, hfr⟩
      · go_wp2_with fail
        go_ret
        exact ⟨rfl, hfr⟩
end Go.Proofs.Ytenilmcndapaeaa
