import Derived.Test.YtenilmcndapaeaaL6
namespace Go.Proofs.Ytenilmcndapaeaa
open Go.RowKit

theorem DeedsAt.fr {w w' : World} {v : Value} {ds : List Dd} (h : DeedsAt w v ds) (f1 : Fr [] w w') : DeedsAt w' v ds := by
  rcases h with h | ⟨b, off, c, h1, h2, h3, h4, h5⟩
  · exact .inl h
  · exact .inr ⟨b, off, c, h1, h2, h3, Nat.lt_of_lt_of_le h4 f1.size, fun i hi => ⟨f1.cell (h5 i hi).1 (by simp), f1.cell (h5 i hi).2.1 (by simp), f1.cell (h5 i hi).2.2 (by simp)⟩⟩

theorem has_does {s : SS} {d : Dd} {i : Nat} (h0 : d.kind ≠ 0) (h : d.i ≠ i ∨ d.kind = 1) : (s.does d).has i = s.has i := by
  unfold SS.does
  rw [if_neg h0]
  split
  · rfl
  · rename_i h1
    have hne : d.i ≠ i := h.resolve_right h1
    have ht : 0 ≤ d.i → d.i.toNat ≠ i := by omega
    have hu : s.used d.i = true → d.i.toNat ≠ i := by
      intro hu
      obtain ⟨k, a, hk, -⟩ := SS.used_true hu
      omega
    split
    · unfold SS.touch; split
      · rename_i hu'; exact has_at (hu hu')
      · rfl
    · split
      · unfold SS.free; split
        · rename_i hu'; exact has_at (hu hu')
        · rfl
      · split
        · unfold SS.set; split
          · rename_i hu'; exact has_at (hu hu')
          · rfl
        · exact has_vic _ _ _

/-- x := New(8), and the deed: the last region's facts. -/
def apG (p b : Nat) (d : Dd) : Nat → List Value → World → Prop
  | 0, [v], _ => v = .pointer (some ⟨p, 0, none⟩)
  | 1, [v], w => RefVal p b w (SS.fresh 8) v
  | 2, [v], _ => v = d.v
  | 3, [_], _ => True
  | _, _, _ => False
def apH (p b : Nat) (s : SS) (d : Dd) : Nat → List Value → World → Prop
  | 0, [], w => SlotsAt w p b s
  | 1, [], w => SlotsAt w p b (s.does d)
  | _, _, _ => False
def apCtx (p b : Nat) (s : SS) (d : Dd) (N : Nat) : PhCtx where
  R := FrT N [p, b] 30
  R1 := Fr []
  G := apG p b d
  H := apH p b s d
  sup := fun i => if i < 4 then [64 + i] else []
  supH := fun _ => []
  loud := fun i => i == 3
  nw := fun _ => false
theorem apG_stable {p b : Nat} {d : Dd} {N : Nat} : ∀ i l w w', FrT N [p, b] 30 w w' → apG p b d i l w → apG p b d i l w' := by
  intro i l w w' hf h
  match i, l, h with
  | 0, [v], h => exact h
  | 1, [v], h => exact RefVal.frT h hf
  | 2, [v], h => exact h
  | 3, [v], h => exact h
theorem apH_stable {p b : Nat} {s : SS} {d : Dd} : ∀ k l w w', Fr [] w w' → apH p b s d k l w → apH p b s d k l w' := by
  intro k l w w' hf h
  match k, l, h with
  | 0, [], h => exact SlotsAt.fr h hf (by simp) (by simp)
  | 1, [], h => exact SlotsAt.fr h hf (by simp) (by simp)

set_option maxRecDepth 100000 in
set_option maxHeartbeats 4000000 in
theorem apart_any {w : World} {v : Value} {ds : List Dd} (h : DeedsAt w v ds) (d : Dd) (k : Int) (hk0 : 0 ≤ k) (hk : k < 256) :
    Calls Try.prog 8 #[v, d.v, .int .u8 k] w fun e w' => e = .returned (.bool true) ∧ Fr [] w w' := by
  obtain ⟨kind, di, dx⟩ := d
  unfold Dd.v
  go_enter Try.func8, Try.ntmps8
  go_wp2_with fail
  have f0 := (Fr.refl [] w).alloc (.cells #[.int .i64 kind, .int .i64 di, .string dx] 35)
  have hb0 := Blk.new w 35 [.int .i64 kind, .int .i64 di, .string dx]
  refine (shown_any _).mono ?_
  rintro e w1 ⟨rfl, f1⟩
  have F1 := f0.trans f1
  replace h := h.fr F1
  replace hb0 := hb0.fr f1 (by simp)
  have hs1 := F1.size
  have hlt1 := hb0.lt
  clear f0 f1
  go_wp2_with fail
  refine (ran_any h).mono ?_
  rintro e w2 ⟨p, b, s, rfl, h2, h8, f2, hp, hb⟩
  have F2 := F1.trans f2
  replace hb0 := hb0.fr f2 (by simp)
  clear F1 f2 h
  obtain ⟨i, hi⟩ : ∃ i : Nat, k % 8 = i := ⟨(k % 8).toNat, by omega⟩
  have hi8 : i < 8 := by omega
  have hlp := h2.own.lt
  have hlb := h2.row.lt
  have hbn : w.heap.size ∉ [p, b] := by simp; omega
  go_wp2_with fail
  refine (get_any h2 i).mono ?_
  rintro e w3 ⟨rfl, rfl⟩
  have b0 := hb0.cell (i := 0) rfl
  have b1 := hb0.cell (i := 1) rfl
  have b2 := hb0.cell (i := 2) rfl
  by_cases c1 : di = i ∧ kind ≠ 1
  · obtain ⟨c1, c2⟩ := c1
    go_wp2_with fail
    go_ret
    exact ⟨rfl, F2⟩
  have c1' : di ≠ i ∨ kind = 1 := by
    rcases Decidable.em (di = i) with h' | h'
    · exact .inr (Decidable.byContradiction fun h'' => c1 ⟨h', h''⟩)
    · exact .inl h'
  clear c1
  by_cases c0 : kind = 0
  · have c2 : ¬ di = i := c1'.elim id (fun h' => by omega)
    subst c0
    go_wp2_with fail
    refine (len_any h2).mono ?_
    rintro e w3 ⟨rfl, f3⟩
    replace h2 := h2.fr f3 (by simp) (by simp)
    have hb3 := hb0.fr f3 (by simp)
    have b0 := hb3.cell (i := 0) rfl
    have b2 := hb3.cell (i := 2) rfl
    by_cases c8 : s.all.length = 8
    · have hfull := len_full (c8.trans h8.symm)
      have c8' : ((s.all.length : Int) == 8) = true := by simp [c8]
      clear c8
      go_wp2_with fail
      refine (put_no h2 dx (fun j hj => ⟨s.l[j], List.getElem?_eq_getElem hj, hfull j hj⟩)).mono ?_
      rintro e w4 ⟨rfl, rfl⟩
      clear hfull
      go_wp2_with fail
      go_ret
      exact ⟨rfl, F2.trans f3⟩
    · have c8' : ((s.all.length : Int) == 8) = false := by simp; omega
      clear c8
      go_wp2_with fail
      go_ret
      exact ⟨rfl, F2.trans f3⟩
  · have hfin := hid (get_has (has_does (s := s) (d := ⟨kind, di, dx⟩) (i := i) c0 (c1'.imp (fun h' => h') (fun h' => h'))))
    have hrest : ∀ (L : Prop), L → L := fun _ h => h
    -- the deed is another slot's, or only asks
    have hway : (¬ di = i) ∨ (di = i ∧ kind = 1) := by omega
    have tests : ((di == (i : Int)) = false) ∨ ((di == (i : Int)) = true ∧ (kind == 1) = true ∧ (kind != 1) = false) := by
      rcases hway with h' | ⟨h', h''⟩
      · exact .inl (beq_eq_false_iff_ne.2 h')
      · exact .inr ⟨beq_iff_eq.2 h', beq_iff_eq.2 h'', by simp [h'']⟩
    rcases tests with t1 | ⟨t1, t2, t3⟩
    all_goals
      clear c1' hway
      go_wp2_with fail
      refine (len_any h2).mono ?_
      rintro e w3 ⟨rfl, f3⟩
      have h3 := h2.fr f3 (by simp) (by simp)
      have hb3 := hb0.fr f3 (by simp)
      clear b0 b1 b2
      have b0 := hb3.cell (i := 0) rfl
      have b1 := hb3.cell (i := 1) rfl
      have b2 := hb3.cell (i := 2) rfl
      go_upto_region 13 with (fail)
      refine wp_region_psteps (apCtx p b s ⟨kind, di, dx⟩ w3.heap.size) [false, false, false, false, false, false, false, false, false, false, false, false, false, false, false, false, false, false, false, false, false, false, false, false, false, false, false, false, false, false, false, false, false, false, false, false, false, false, false, false, false, false, false, false, false, false, false, false, false, false, false, false, false, false, false, false, false, false, false, false, false, false, false, false, true, true, true, true, false, false, false, false, false, false, false, false, false, false, false, false, false, false, false, false, false] (by kernel_rfl) _ (by kernel_rfl) (by kernel_rfl) (by kernel_rfl) (by kernel_rfl) [] (fun _ _ _ h1 h2 => h1.trans h2) (fun _ _ h => FrT.of (h.mono (by simp))) apG_stable apH_stable (fun _ _ h => h.size) _ (FrT.of (Fr.refl _ _)) (h3.fr (Fr.drew (Fr.refl [] w3)) (by simp) (by simp)) ?_ ?_
      · refine ⟨?_, ?_, ?_, ?_, trivial⟩
        all_goals intro σ w' hR hd hH
        all_goals simp only [fill, Nat.reduceAdd, if_true, Bool.false_eq_true, if_false]
        · go_wp2
          exact ⟨FrT.of (Fr.refl _ _), rfl, fun h => (Bool.false_ne_true h).elim, fun _ => Fr.refl _ _, fun h => (Bool.false_ne_true h).elim⟩
        · go_wp2_with fail
          have hz := hR.size
          simp only [World.size_drew] at hz
          have hz3 := f3.size
          refine (rnew_any 8 (by omega) (by omega) w').mono ?_
          rintro e w4 ⟨gx, cx, gu, cu, gt, ct, rfl, h4, f4, q1, q2, q3⟩
          go_wp2_with fail
          exact ⟨FrT.of (f4.mono (by simp)), ⟨gx, cx, gu, cu, gt, ct, rfl, h4, by simp; omega, by simp; omega, by simp; omega⟩, fun h => (Bool.false_ne_true h).elim, fun _ => f4, fun h => (Bool.false_ne_true h).elim⟩
        · have hb4 := hb3.drew.frT hR hbn (.inl hb3.lt)
          clear b0 b1 b2
          have b0 := hb4.cell (i := 0) rfl
          have b1 := hb4.cell (i := 1) rfl
          have b2 := hb4.cell (i := 2) rfl
          go_wp2
          exact ⟨FrT.of (Fr.refl _ _), rfl, fun h => (Bool.false_ne_true h).elim, fun _ => Fr.refl _ _, fun h => (Bool.false_ne_true h).elim⟩
        · obtain h1 : σ 64 = _ := hd 0 (by decide)
          obtain ⟨gx, cx, gu, cu, gt, ct, h4, h5, h6⟩ : RefVal p b w' (SS.fresh 8) (σ 65) := hd 1 (by decide)
          obtain h7 : σ 66 = _ := hd 2 (by decide)
          rw [h1, h4, h7]
          have hsw : SlotsAt w' p b s := hH rfl
          clear h1 h4 h7 hd hH b0 b1 b2
          go_wp2_with fail
          refine (do_any hsw h5 ⟨kind, di, dx⟩).mono ?_
          rintro e w4 ⟨gx', cx', gu', cu', gt', ct', r, rfl, hs2, hr2, hst, hf2⟩
          go_wp2_with fail
          exact ⟨FrT.of hf2, trivial, fun _ => hs2, fun h => (Bool.false_ne_true h.symm).elim, fun h => (Bool.false_ne_true h).elim⟩
      · intro σ w' hR hf hH hne
        simp only [fill, Nat.reduceAdd, if_true, Bool.false_eq_true, if_false]
        have hs4 : SlotsAt w' p b (s.does ⟨kind, di, dx⟩) := hH
        have F4 : Fr [p, b] w3 w' := (Fr.drew (Fr.refl _ _)).trans (hR.fr (Nat.le_refl _))
        clear b0 b1 b2 hR hf hH hne
        go_wp2_with fail
        refine (get_any hs4 i).mono ?_
        rintro e w5 ⟨rfl, rfl⟩
        rw [hfin.out]
        go_wp2_with fail
        go_ret
        exact ⟨by simp, (F2.trans f3).weak F4 (by simp; omega)⟩
end Go.Proofs.Ytenilmcndapaeaa
