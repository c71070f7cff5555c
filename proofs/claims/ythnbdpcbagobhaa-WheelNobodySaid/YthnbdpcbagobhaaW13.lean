import Derived.Test.YthnbdpcbagobhaaW12
namespace Go.Proofs.Ythnbdpcbagobhaa
open Go Go.RowKit Go.Proofs.MapL Go.Proofs.YthnbdpcbagobhaaW.PrintWords

set_option maxRecDepth 100000 in
set_option maxHeartbeats 4000000 in
theorem nobody_law {w : World} {v : Value} {ids : List Int} {size t : Int} (hs : 0 ≤ size ∧ size < 256) (hI : IntsAt w v ids) (ht : TOk t) :
    Calls Try.prog 7 #[.int .u8 size, v, .int .u64 t] w fun r w' => r = .returned (.bool true) ∧ Fr [] w w' := by
  obtain ⟨hle, hok, A0, cd, rfl, hat⟩ := hI
  obtain ⟨sz, rfl⟩ := Int.eq_ofNat_of_zero_le hs.1
  have HAT := Hd.mk hat
  have HOK := Hd.mk hok
  have HT := Hd.mk ht
  clear hat hok ht
  go_enter Try.func7, Try.ntmps7
  go_wp2_with fail
  refine (shown_calls _).mono ?_
  rintro r ws ⟨rfl, hF0⟩
  go_wp2_with fail
  refine (at_nil 1 _).mono ?_
  rintro r wa ⟨rfl, rfl⟩
  go_wp2_with fail
  refine (next_nil _).mono ?_
  rintro r wb ⟨rfl, rfl⟩
  go_wp2_with fail
  refine (new_calls (1 + sz) (by omega) (by omega) _).mono ?_
  rintro r w1 ⟨p, g, b, c, bs, rfl, hW, hn, hf, hge⟩
  have hsz := hF0.size
  have HGP : Hd (∀ k ∈ p :: b :: bs, w.heap.size ≤ k) := Hd.mk fun k hk => by
    have := hge k (by simp only [List.mem_cons] at hk ⊢; rcases hk with h | h | h <;> simp [h])
    omega
  have HGE : Hd (∀ k ∈ b :: bs, w.heap.size ≤ k) := Hd.mk fun k hk => HGP.out k (List.mem_cons_of_mem _ hk)
  have hF := hF0.trans hf
  clear hF0 hf hge hn hsz
  go_wp2_with fail
  go_loopw [14] (fun i wr => ∃ (k : Nat) (X : List It), k ≤ ids.length ∧ k ≤ 100 ∧ i = .int .i64 k ∧ WhAt wr p g b c bs 0 X ∧ X.length ≤ k ∧ (∀ x ∈ X, x.t = t) ∧ Fr [] w wr) (fun i _ => 100 - (intOf i).toNat)
  case atStart => exact ⟨0, [], Nat.zero_le _, by omega, rfl, hW, by simp, by simp, hF⟩
  case round =>
    obtain ⟨k, X, hk, hk2, rfl, hWr, hX, hXt, hFr⟩ := hrel
    have HW := Hd.mk hWr
    have HF := Hd.mk hFr
    have HX := Hd.mk hX
    have HXT := Hd.mk hXt
    have HXL : Hd (X.length < 1000000) := Hd.mk (by omega)
    clear hWr hFr hX hXt hW hF
    by_cases hlt : k < ids.length
    · by_cases hlt2 : k < 100
      · obtain ⟨gd, off, rfl, hgl, hcc⟩ := HAT.out (by omega)
        have c0 := HF.out.cell (hcc k hlt) (by simp)
        have hi := HOK.out ids[k] (List.getElem_mem hlt)
        obtain ⟨d, hd⟩ : ∃ d, ids[k] = d := ⟨_, rfl⟩
        rw [hd] at c0 hi
        have HDO := Hd.mk hi
        clear hi hd hcc
        go_wp2_with fail
        refine (set_calls HW.out HDO.out HT.out HXL.out).mono ?_
        rintro r w2 ⟨rfl, hW2, hf2⟩
        have HW2 := Hd.mk hW2
        have HF2 := Hd.mk (HF.out.weak hf2 (fun x hx => .inr (HGE.out x hx)))
        clear hW2 hf2 c0
        go_wp2
        go_roundw
        case rel => exact ⟨k + 1, _, by omega, by omega, by go_num, HW2.out, Nat.le_trans (setX_len _ _ _) (by have := HX.out; omega), (fun x hx => by
          rcases List.mem_append.1 hx with hx | hx
          · exact HXT.out x (List.mem_filter.1 hx).1
          · obtain rfl := List.mem_singleton.1 hx; rfl), HF2.out⟩
        case measure => simp [intOf]; omega
      · go_wp2_with fail
        refine (len_calls HW.out).mono ?_
        rintro r w3 ⟨rfl, rfl⟩
        go_wp2_with fail
        refine (due_calls HW.out (Nat.lt_trans (Nat.lt_of_le_of_lt HX.out (show k < 1000 by omega)) (by omega)) ⟨by omega, by omega⟩).mono ?_
        rintro r w4 ⟨v, rfl, ho, hv, hW4, hf4⟩
        obtain ⟨hd1, hd2⟩ := due_all (X := X) (now := 18446744073709551615) (fun x hx => by have := (HW.out.ok x hx).2.2; omega)
        rw [hd2] at hW4
        have hrise := due_rise HW.out.ids (now := 18446744073709551615) HXT.out
        have HLW := Hd.mk hW4
        have HF := Hd.mk (HF.out.weak hf4 (fun x hx => .inr (HGP.out x hx)))
        rw [hd1] at ho
        obtain ⟨N, hN⟩ : ∃ N, X.length = N := ⟨_, rfl⟩
        obtain ⟨D, hD⟩ : ∃ D, dueP X 18446744073709551615 = D := ⟨_, rfl⟩
        rw [hN] at ho hd1
        rw [hD] at ho hd1 hv hrise
        rw [hN]
        have HN : Hd (N ≤ 100) := Hd.mk (by have := HX.out; omega)
        have HRISE := Hd.mk hrise
        have HD1 := Hd.mk hd1
        clear hD hN hd1 hd2 hrise hW4 hf4 HX HXT HXL HW HGP HGE hlt
        rcases Nat.eq_zero_or_pos N with h0 | h0
        · obtain rfl := hv (List.eq_nil_of_length_eq_zero (by rw [HD1.out, h0]))
          subst h0
          clear ho hv
          go_wp2_with fail
          go_loopw [17] (fun i wr2 => i = .int .i64 1 ∧ Fr [] w4 wr2) (fun _ _ => 0)
          case atStart => exact ⟨rfl, Fr.refl _ _⟩
          case round =>
            obtain ⟨rfl, hfr2⟩ := hrel
            have HFR := Hd.mk hfr2
            clear hfr2
            go_wp2_with fail
            refine (set_nil 1 2 _).mono ?_
            rintro r w6 ⟨rfl, rfl⟩
            go_wp2_with fail
            refine (del_nil 1 _).mono ?_
            rintro r w7 ⟨rfl, rfl⟩
            go_wp2_with fail
            refine (due_nil 9 _).mono ?_
            rintro r w8 ⟨rfl, rfl⟩
            go_wp2_with fail
            refine (len_nil _).mono ?_
            rintro r w9 ⟨rfl, rfl⟩
            go_wp2_with fail
            refine (len_calls (HLW.out.fr0 HFR.out)).mono ?_
            rintro r w10 ⟨rfl, rfl⟩
            go_wp2
            go_ret
            exact ⟨rfl, HF.out.trans HFR.out⟩
        · obtain ⟨g2, c2, rfl, hg2, hg3⟩ := own_form ho h0
          have HOW := Hd.mk ho
          have H0 := Hd.mk h0
          clear ho hv h0
          go_wp2_with fail
          go_loopw [17] (fun i wr2 => ∃ j : Nat, 1 ≤ j ∧ j ≤ N ∧ i = .int .i64 j ∧ Fr [] w4 wr2) (fun i _ => N - (intOf i).toNat)
          case atStart => exact ⟨1, by omega, H0.out, rfl, Fr.refl _ _⟩
          case round =>
            obtain ⟨j, hj1, hj2, rfl, hfr2⟩ := hrel
            have HFR := Hd.mk hfr2
            clear hfr2
            have hNN := HN.out
            by_cases hjl : j < N
            · obtain ⟨m, hm⟩ : ∃ m, m + 1 = j := ⟨j - 1, by omega⟩
              have hlD := HD1.out
              have hy := own_cell HOW.out (j := m) (v := iv D[m]) (by rw [List.getElem?_map, List.getElem?_eq_getElem (by omega)]; rfl)
              have hz := own_cell HOW.out (j := j) (v := iv D[j]) (by rw [List.getElem?_map, List.getElem?_eq_getElem (by omega)]; rfl)
              have hyz : D[m].1 < D[j].1 := List.pairwise_iff_getElem.1 HRISE.out m j (by omega) (by omega) (by omega)
              unfold iv at hy hz
              obtain ⟨y, hy_⟩ : ∃ y, D[m].1 = y := ⟨_, rfl⟩
              obtain ⟨z, hz_⟩ : ∃ z, D[j].1 = z := ⟨_, rfl⟩
              rw [hy_] at hy hyz
              rw [hz_] at hz hyz
              have HY := Hd.mk hy
              have HZ := Hd.mk hz
              have HYZ : Hd (decide (z ≤ y) = false) := Hd.mk (by rw [decide_eq_false_iff_not]; omega)
              have HM := Hd.mk hm
              have hml : m < N := by omega
              clear hy hz hyz hy_ hz_ hlD hm
              go_wp2_with fail
              refine wp_region_gs { R := Fr [], R1 := Fr [], gs := [Is (.slice (some ⟨g2, 0, none⟩) N c2), Is (.int .i64 j), Is (.int .i64 m), Is (.pointer (some ⟨g2, m, none⟩)), Is (.int .i64 y), Is (.slice (some ⟨g2, 0, none⟩) N c2), Is (.int .i64 j), Is (.pointer (some ⟨g2, j, none⟩)), Is (.int .i64 z), Is (.bool false)], ds := [some 60, some 61, some 62, some 63, some 64, some 65, some 66, some 67, some 68, some 69], fl := [false, false, false, false, false, false, false, false, false, false], hs := [], hd := [] } [false, false, false, false, false, false, false, false, false, false, false, false, false, false, false, false, false, false, false, false, false, false, false, false, false, false, false, false, false, false, false, false, false, false, false, false, false, false, false, false, false, false, false, false, false, false, false, false, false, false, false, false, false, false, false, false, false, false, false, false, true, true, true, true, true, true, true, true, true, true, false, false, false, false, false, false, false, false, false, false, false, false, false, false, false, false, false, false, false, false, false, false, false, false, false, false, false, false, false, false, false, false, false, false, false, false, false, false, false, false, false] (by kernel_rfl) _ (by kernel_rfl) (by kernel_rfl) (by kernel_rfl) (by kernel_rfl) rfl [] (fun _ _ _ h1 h2 => h1.trans h2) (fun _ _ h => h) (staI (staI (staI (staI (staI (staI (staI (staI (staI (staI sta0)))))))))) sth0 (fun _ _ h => h.size) _ (Fr.refl _ _) trivial ?_ ?_
              · refine ⟨?_, ?_, ?_, ?_, ?_, ?_, ?_, ?_, ?_, ?_, trivial⟩
                · intro σ w' hR hd
                  simp only [fill, Nat.reduceAdd, if_true, Bool.false_eq_true, if_false]
                  clear hd
                  go_wp2
                  exact ⟨Fr.refl _ _, rfl⟩
                · intro σ w' hR hd
                  simp only [fill, Nat.reduceAdd, if_true, Bool.false_eq_true, if_false]
                  clear hd
                  go_wp2
                  exact ⟨Fr.refl _ _, rfl⟩
                · intro σ w' hR hd
                  simp only [fill, Nat.reduceAdd, if_true, Bool.false_eq_true, if_false]
                  obtain h61 : σ 61 = _ := hd 1 (by decide)
                  rw [h61]
                  clear h61
                  clear hd
                  go_wp2
                  exact ⟨Fr.refl _ _, by have hm := HM.out; show Value.int _ _ = Value.int _ _; congr 1; omega⟩
                · intro σ w' hR hd
                  simp only [fill, Nat.reduceAdd, if_true, Bool.false_eq_true, if_false]
                  obtain h60 : σ 60 = _ := hd 0 (by decide)
                  obtain h62 : σ 62 = _ := hd 2 (by decide)
                  rw [h60, h62]
                  clear h60 h62
                  clear hd
                  go_wp2
                  exact ⟨Fr.refl _ _, rfl⟩
                · intro σ w' hR hd
                  simp only [fill, Nat.reduceAdd, if_true, Bool.false_eq_true, if_false]
                  obtain h63 : σ 63 = _ := hd 3 (by decide)
                  rw [h63]
                  clear h63
                  clear hd
                  have hfr := HFR.out.trans ((Fr.drew (Fr.refl [] _)).trans hR)
                  have e0 := hfr.cell HY.out (by simp)
                  go_wp2
                  exact ⟨Fr.refl _ _, rfl⟩
                · intro σ w' hR hd
                  simp only [fill, Nat.reduceAdd, if_true, Bool.false_eq_true, if_false]
                  clear hd
                  go_wp2
                  exact ⟨Fr.refl _ _, rfl⟩
                · intro σ w' hR hd
                  simp only [fill, Nat.reduceAdd, if_true, Bool.false_eq_true, if_false]
                  clear hd
                  go_wp2
                  exact ⟨Fr.refl _ _, rfl⟩
                · intro σ w' hR hd
                  simp only [fill, Nat.reduceAdd, if_true, Bool.false_eq_true, if_false]
                  obtain h65 : σ 65 = _ := hd 5 (by decide)
                  obtain h66 : σ 66 = _ := hd 6 (by decide)
                  rw [h65, h66]
                  clear h65 h66
                  clear hd
                  go_wp2
                  exact ⟨Fr.refl _ _, rfl⟩
                · intro σ w' hR hd
                  simp only [fill, Nat.reduceAdd, if_true, Bool.false_eq_true, if_false]
                  obtain h67 : σ 67 = _ := hd 7 (by decide)
                  rw [h67]
                  clear h67
                  clear hd
                  have hfr := HFR.out.trans ((Fr.drew (Fr.refl [] _)).trans hR)
                  have e0 := hfr.cell HZ.out (by simp)
                  go_wp2
                  exact ⟨Fr.refl _ _, rfl⟩
                · intro σ w' hR hd
                  simp only [fill, Nat.reduceAdd, if_true, Bool.false_eq_true, if_false]
                  obtain h64 : σ 64 = _ := hd 4 (by decide)
                  obtain h68 : σ 68 = _ := hd 8 (by decide)
                  rw [h64, h68]
                  clear h64 h68
                  clear hd
                  have hyz := HYZ.out
                  go_wp2
                  exact ⟨Fr.refl _ _, rfl⟩
              · intro σ w3 hR hG hH
                obtain h69 : σ 69 = _ := hG 9 (by decide)
                simp only [fill, Nat.reduceAdd, if_true, Bool.false_eq_true, if_false, h69]
                clear h69
                clear hG
                have HFR2 := Hd.mk (HFR.out.trans ((Fr.drew (Fr.refl [] _)).trans hR))
                clear hR
                go_wp2
                go_roundw
                case rel => exact ⟨j + 1, by omega, by omega, by go_num, HFR2.out⟩
                case measure => simp [intOf]; omega
            · have hje : j = N := by omega
              subst hje
              go_wp2_with fail
              refine (set_nil 1 2 _).mono ?_
              rintro r w6 ⟨rfl, rfl⟩
              go_wp2_with fail
              refine (del_nil 1 _).mono ?_
              rintro r w7 ⟨rfl, rfl⟩
              go_wp2_with fail
              refine (due_nil 9 _).mono ?_
              rintro r w8 ⟨rfl, rfl⟩
              go_wp2_with fail
              refine (len_nil _).mono ?_
              rintro r w9 ⟨rfl, rfl⟩
              go_wp2_with fail
              refine (len_calls (HLW.out.fr0 HFR.out)).mono ?_
              rintro r w10 ⟨rfl, rfl⟩
              go_wp2
              go_ret
              exact ⟨rfl, HF.out.trans HFR.out⟩
    · go_wp2_with fail
      refine (len_calls HW.out).mono ?_
      rintro r w3 ⟨rfl, rfl⟩
      go_wp2_with fail
      refine (due_calls HW.out (Nat.lt_trans (Nat.lt_of_le_of_lt HX.out (show k < 1000 by omega)) (by omega)) ⟨by omega, by omega⟩).mono ?_
      rintro r w4 ⟨v, rfl, ho, hv, hW4, hf4⟩
      obtain ⟨hd1, hd2⟩ := due_all (X := X) (now := 18446744073709551615) (fun x hx => by have := (HW.out.ok x hx).2.2; omega)
      rw [hd2] at hW4
      have hrise := due_rise HW.out.ids (now := 18446744073709551615) HXT.out
      have HLW := Hd.mk hW4
      have HF := Hd.mk (HF.out.weak hf4 (fun x hx => .inr (HGP.out x hx)))
      rw [hd1] at ho
      obtain ⟨N, hN⟩ : ∃ N, X.length = N := ⟨_, rfl⟩
      obtain ⟨D, hD⟩ : ∃ D, dueP X 18446744073709551615 = D := ⟨_, rfl⟩
      rw [hN] at ho hd1
      rw [hD] at ho hd1 hv hrise
      rw [hN]
      have HN : Hd (N ≤ 100) := Hd.mk (by have := HX.out; omega)
      have HRISE := Hd.mk hrise
      have HD1 := Hd.mk hd1
      clear hD hN hd1 hd2 hrise hW4 hf4 HX HXT HXL HW HGP HGE hlt
      rcases Nat.eq_zero_or_pos N with h0 | h0
      · obtain rfl := hv (List.eq_nil_of_length_eq_zero (by rw [HD1.out, h0]))
        subst h0
        clear ho hv
        go_wp2_with fail
        go_loopw [17] (fun i wr2 => i = .int .i64 1 ∧ Fr [] w4 wr2) (fun _ _ => 0)
        case atStart => exact ⟨rfl, Fr.refl _ _⟩
        case round =>
          obtain ⟨rfl, hfr2⟩ := hrel
          have HFR := Hd.mk hfr2
          clear hfr2
          go_wp2_with fail
          refine (set_nil 1 2 _).mono ?_
          rintro r w6 ⟨rfl, rfl⟩
          go_wp2_with fail
          refine (del_nil 1 _).mono ?_
          rintro r w7 ⟨rfl, rfl⟩
          go_wp2_with fail
          refine (due_nil 9 _).mono ?_
          rintro r w8 ⟨rfl, rfl⟩
          go_wp2_with fail
          refine (len_nil _).mono ?_
          rintro r w9 ⟨rfl, rfl⟩
          go_wp2_with fail
          refine (len_calls (HLW.out.fr0 HFR.out)).mono ?_
          rintro r w10 ⟨rfl, rfl⟩
          go_wp2
          go_ret
          exact ⟨rfl, HF.out.trans HFR.out⟩
      · obtain ⟨g2, c2, rfl, hg2, hg3⟩ := own_form ho h0
        have HOW := Hd.mk ho
        have H0 := Hd.mk h0
        clear ho hv h0
        go_wp2_with fail
        go_loopw [17] (fun i wr2 => ∃ j : Nat, 1 ≤ j ∧ j ≤ N ∧ i = .int .i64 j ∧ Fr [] w4 wr2) (fun i _ => N - (intOf i).toNat)
        case atStart => exact ⟨1, by omega, H0.out, rfl, Fr.refl _ _⟩
        case round =>
          obtain ⟨j, hj1, hj2, rfl, hfr2⟩ := hrel
          have HFR := Hd.mk hfr2
          clear hfr2
          have hNN := HN.out
          by_cases hjl : j < N
          · obtain ⟨m, hm⟩ : ∃ m, m + 1 = j := ⟨j - 1, by omega⟩
            have hlD := HD1.out
            have hy := own_cell HOW.out (j := m) (v := iv D[m]) (by rw [List.getElem?_map, List.getElem?_eq_getElem (by omega)]; rfl)
            have hz := own_cell HOW.out (j := j) (v := iv D[j]) (by rw [List.getElem?_map, List.getElem?_eq_getElem (by omega)]; rfl)
            have hyz : D[m].1 < D[j].1 := List.pairwise_iff_getElem.1 HRISE.out m j (by omega) (by omega) (by omega)
            unfold iv at hy hz
            obtain ⟨y, hy_⟩ : ∃ y, D[m].1 = y := ⟨_, rfl⟩
            obtain ⟨z, hz_⟩ : ∃ z, D[j].1 = z := ⟨_, rfl⟩
            rw [hy_] at hy hyz
            rw [hz_] at hz hyz
            have HY := Hd.mk hy
            have HZ := Hd.mk hz
            have HYZ : Hd (decide (z ≤ y) = false) := Hd.mk (by rw [decide_eq_false_iff_not]; omega)
            have HM := Hd.mk hm
            have hml : m < N := by omega
            clear hy hz hyz hy_ hz_ hlD hm
            go_wp2_with fail
            refine wp_region_gs { R := Fr [], R1 := Fr [], gs := [Is (.slice (some ⟨g2, 0, none⟩) N c2), Is (.int .i64 j), Is (.int .i64 m), Is (.pointer (some ⟨g2, m, none⟩)), Is (.int .i64 y), Is (.slice (some ⟨g2, 0, none⟩) N c2), Is (.int .i64 j), Is (.pointer (some ⟨g2, j, none⟩)), Is (.int .i64 z), Is (.bool false)], ds := [some 60, some 61, some 62, some 63, some 64, some 65, some 66, some 67, some 68, some 69], fl := [false, false, false, false, false, false, false, false, false, false], hs := [], hd := [] } [false, false, false, false, false, false, false, false, false, false, false, false, false, false, false, false, false, false, false, false, false, false, false, false, false, false, false, false, false, false, false, false, false, false, false, false, false, false, false, false, false, false, false, false, false, false, false, false, false, false, false, false, false, false, false, false, false, false, false, false, true, true, true, true, true, true, true, true, true, true, false, false, false, false, false, false, false, false, false, false, false, false, false, false, false, false, false, false, false, false, false, false, false, false, false, false, false, false, false, false, false, false, false, false, false, false, false, false, false, false, false] (by kernel_rfl) _ (by kernel_rfl) (by kernel_rfl) (by kernel_rfl) (by kernel_rfl) rfl [] (fun _ _ _ h1 h2 => h1.trans h2) (fun _ _ h => h) (staI (staI (staI (staI (staI (staI (staI (staI (staI (staI sta0)))))))))) sth0 (fun _ _ h => h.size) _ (Fr.refl _ _) trivial ?_ ?_
            · refine ⟨?_, ?_, ?_, ?_, ?_, ?_, ?_, ?_, ?_, ?_, trivial⟩
              · intro σ w' hR hd
                simp only [fill, Nat.reduceAdd, if_true, Bool.false_eq_true, if_false]
                clear hd
                go_wp2
                exact ⟨Fr.refl _ _, rfl⟩
              · intro σ w' hR hd
                simp only [fill, Nat.reduceAdd, if_true, Bool.false_eq_true, if_false]
                clear hd
                go_wp2
                exact ⟨Fr.refl _ _, rfl⟩
              · intro σ w' hR hd
                simp only [fill, Nat.reduceAdd, if_true, Bool.false_eq_true, if_false]
                obtain h61 : σ 61 = _ := hd 1 (by decide)
                rw [h61]
                clear h61
                clear hd
                go_wp2
                exact ⟨Fr.refl _ _, by have hm := HM.out; show Value.int _ _ = Value.int _ _; congr 1; omega⟩
              · intro σ w' hR hd
                simp only [fill, Nat.reduceAdd, if_true, Bool.false_eq_true, if_false]
                obtain h60 : σ 60 = _ := hd 0 (by decide)
                obtain h62 : σ 62 = _ := hd 2 (by decide)
                rw [h60, h62]
                clear h60 h62
                clear hd
                go_wp2
                exact ⟨Fr.refl _ _, rfl⟩
              · intro σ w' hR hd
                simp only [fill, Nat.reduceAdd, if_true, Bool.false_eq_true, if_false]
                obtain h63 : σ 63 = _ := hd 3 (by decide)
                rw [h63]
                clear h63
                clear hd
                have hfr := HFR.out.trans ((Fr.drew (Fr.refl [] _)).trans hR)
                have e0 := hfr.cell HY.out (by simp)
                go_wp2
                exact ⟨Fr.refl _ _, rfl⟩
              · intro σ w' hR hd
                simp only [fill, Nat.reduceAdd, if_true, Bool.false_eq_true, if_false]
                clear hd
                go_wp2
                exact ⟨Fr.refl _ _, rfl⟩
              · intro σ w' hR hd
                simp only [fill, Nat.reduceAdd, if_true, Bool.false_eq_true, if_false]
                clear hd
                go_wp2
                exact ⟨Fr.refl _ _, rfl⟩
              · intro σ w' hR hd
                simp only [fill, Nat.reduceAdd, if_true, Bool.false_eq_true, if_false]
                obtain h65 : σ 65 = _ := hd 5 (by decide)
                obtain h66 : σ 66 = _ := hd 6 (by decide)
                rw [h65, h66]
                clear h65 h66
                clear hd
                go_wp2
                exact ⟨Fr.refl _ _, rfl⟩
              · intro σ w' hR hd
                simp only [fill, Nat.reduceAdd, if_true, Bool.false_eq_true, if_false]
                obtain h67 : σ 67 = _ := hd 7 (by decide)
                rw [h67]
                clear h67
                clear hd
                have hfr := HFR.out.trans ((Fr.drew (Fr.refl [] _)).trans hR)
                have e0 := hfr.cell HZ.out (by simp)
                go_wp2
                exact ⟨Fr.refl _ _, rfl⟩
              · intro σ w' hR hd
                simp only [fill, Nat.reduceAdd, if_true, Bool.false_eq_true, if_false]
                obtain h64 : σ 64 = _ := hd 4 (by decide)
                obtain h68 : σ 68 = _ := hd 8 (by decide)
                rw [h64, h68]
                clear h64 h68
                clear hd
                have hyz := HYZ.out
                go_wp2
                exact ⟨Fr.refl _ _, rfl⟩
            · intro σ w3 hR hG hH
              obtain h69 : σ 69 = _ := hG 9 (by decide)
              simp only [fill, Nat.reduceAdd, if_true, Bool.false_eq_true, if_false, h69]
              clear h69
              clear hG
              have HFR2 := Hd.mk (HFR.out.trans ((Fr.drew (Fr.refl [] _)).trans hR))
              clear hR
              go_wp2
              go_roundw
              case rel => exact ⟨j + 1, by omega, by omega, by go_num, HFR2.out⟩
              case measure => simp [intOf]; omega
          · have hje : j = N := by omega
            subst hje
            go_wp2_with fail
            refine (set_nil 1 2 _).mono ?_
            rintro r w6 ⟨rfl, rfl⟩
            go_wp2_with fail
            refine (del_nil 1 _).mono ?_
            rintro r w7 ⟨rfl, rfl⟩
            go_wp2_with fail
            refine (due_nil 9 _).mono ?_
            rintro r w8 ⟨rfl, rfl⟩
            go_wp2_with fail
            refine (len_nil _).mono ?_
            rintro r w9 ⟨rfl, rfl⟩
            go_wp2_with fail
            refine (len_calls (HLW.out.fr0 HFR.out)).mono ?_
            rintro r w10 ⟨rfl, rfl⟩
            go_wp2
            go_ret
            exact ⟨rfl, HF.out.trans HFR.out⟩
end Go.Proofs.Ythnbdpcbagobhaa
