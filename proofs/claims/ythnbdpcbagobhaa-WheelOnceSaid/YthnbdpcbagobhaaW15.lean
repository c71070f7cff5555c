import Derived.Test.YthnbdpcbagobhaaW14
namespace Go.Proofs.Ythnbdpcbagobhaa
open Go Go.RowKit Go.Proofs.MapL Go.Proofs.YthnbdpcbagobhaaW.PrintWords

set_option maxRecDepth 100000 in
set_option maxHeartbeats 4000000 in
theorem once_law {w : World} {v : Value} {ds : List Wd} {size now : Int} (hs : 0 ≤ size ∧ size < 256) (hD : DeedsAt w v ds) (hnow : TOk now) :
    Calls Try.prog 6 #[.int .u8 size, v, .int .u64 now] w fun r w' => r = .returned (.bool true) ∧ Fr [] w w' := by
  obtain ⟨hle, hok, A0, cd, rfl, hat⟩ := hD
  obtain ⟨sz, rfl⟩ := Int.eq_ofNat_of_zero_le hs.1
  have HAT := Hd.mk hat
  have HOK := Hd.mk hok
  have HNOW := Hd.mk hnow
  clear hat hok hnow
  go_enter Try.func6, Try.ntmps6
  go_wp2_with fail
  refine (shown_calls _).mono ?_
  rintro r ws ⟨rfl, hF0⟩
  go_wp2_with fail
  refine (new_calls (1 + sz) (by omega) (by omega) _).mono ?_
  rintro r w1 ⟨p, g, b, c, bs, rfl, hW, hn, hf, hge⟩
  have hsz := hF0.size
  have HGP : Hd (∀ k ∈ p :: b :: bs, w.heap.size ≤ k) := Hd.mk fun k hk => by
    have := hge k (by simp only [List.mem_cons] at hk ⊢; rcases hk with h | h | h <;> simp [h])
    omega
  have HGE : Hd (∀ k ∈ b :: bs, w.heap.size ≤ k) := Hd.mk fun k hk => HGP.out k (List.mem_cons_of_mem _ hk)
  have hF := hF0.trans hf
  clear hF0 hf hge hn hsz
  go_wp2_with fail
  go_loopw [9] (fun i wr => ∃ (k : Nat) (X : List It), k ≤ ds.length ∧ k ≤ 200 ∧ i = .int .i64 k ∧ WhAt wr p g b c bs 0 X ∧ X.length ≤ k ∧ Fr [] w wr) (fun i _ => 200 - (intOf i).toNat)
  case atStart => exact ⟨0, [], Nat.zero_le _, by omega, rfl, hW, by simp, hF⟩
  case round =>
    obtain ⟨k, X, hk, hk2, rfl, hWr, hX, hFr⟩ := hrel
    have HW := Hd.mk hWr
    have HF := Hd.mk hFr
    have HX := Hd.mk hX
    have HXL : Hd (X.length < 1000000) := Hd.mk (by omega)
    have HXS : Hd (X.length ≤ 200) := Hd.mk (by omega)
    clear hWr hFr hX hW hF
    by_cases hlt : k < ds.length
    · by_cases hlt2 : k < 200
      · obtain ⟨gd, off, rfl, hgl, hcc⟩ := HAT.out (by omega)
        obtain ⟨d, hd⟩ : ∃ d, ds[k] = d := ⟨_, rfl⟩
        have hcd := hcc k hlt
        have hdo := HOK.out (ds[k]) (List.getElem_mem hlt)
        rw [hd] at hcd hdo
        have HDO := Hd.mk hdo
        have HGD : Hd (gd ∉ b :: bs) := Hd.mk fun hx => by have := HGE.out gd hx; omega
        have hw0 : ∀ j u, d.c[j]? = some u → wr.cell? ⟨gd, off + k * 3 + j, none⟩ = some u := fun j u hu => HF.out.cell (hcd j u hu) (by simp)
        have c0 : wr.cell? ⟨gd, off + k * 3, none⟩ = some (.int .i64 d.kind) := hw0 0 _ rfl
        have c1 : wr.cell? ⟨gd, off + k * 3 + 1, none⟩ = some (.int .i64 d.id) := hw0 1 _ rfl
        have c2 : wr.cell? ⟨gd, off + k * 3 + 2, none⟩ = some (.int .u64 d.at_) := hw0 2 _ rfl
        have HDR : Hd (WhAt wr.drew p g b c bs 0 X) := Hd.mk (HW.out.fr0 (Fr.drew (Fr.refl [] _)))
        have HC := Hd.mk (And.intro c0 (And.intro c1 c2))
        clear hcd hdo hd hcc hw0
        by_cases hk0 : d.kind = 0
        · have e0 : (d.kind == 0) = true := by simpa using hk0
          have e1 : (d.kind == 1) = false := by rw [beq_eq_false_iff_ne]; omega
          clear hk0
          go_wp2_with fail
          clear c1 c2 c0
          refine wp_region_gs { R := Fr (b :: bs), R1 := Fr [], gs := [Is (.pointer (some ⟨p, 0, none⟩)), Is (.slice (some ⟨gd, off, none⟩) ds.length cd), Is (.int .i64 k), Is (.pointer (some ⟨gd, off + k * 3, none⟩)), Is (.pointer (some ⟨gd, off + k * 3 + 1, none⟩)), Is (.int .i64 d.id), Is (.slice (some ⟨gd, off, none⟩) ds.length cd), Is (.int .i64 k), Is (.pointer (some ⟨gd, off + k * 3, none⟩)), Is (.pointer (some ⟨gd, off + k * 3 + 2, none⟩)), Is (.int .u64 d.at_), Is (.int .i64 0)], ds := [some 40, some 41, some 42, some 43, some 44, some 45, some 46, some 47, some 48, some 49, some 50, some 51], fl := [false, false, false, false, false, false, false, false, false, false, false, true], hs := [fun _ w2 => WhAt w2 p g b c bs 0 X, fun _ w2 => WhAt w2 p g b c bs 0 (setX X d.id d.at_)], hd := [[], []] } [false, false, false, false, false, false, false, false, false, false, false, false, false, false, false, false, false, false, false, false, false, false, false, false, false, false, false, false, false, false, false, false, false, false, false, false, false, false, false, false, true, true, true, true, true, true, true, true, true, true, true, true, false, false, false, false, false, false, false, false, false, false, false, false, false, false, false, false, false, false, false, false, false, false, false, false, false, false, false, false, false, false, false, false, false, false, false, false, false, false, false, false, false, false, false, false, false, false, false, false, false, false, false, false, false, false, false, false, false, false, false, false, false, false, false, false, false, false, false, false, false, false, false, false, false, false, false, false, false, false, false, false, false, false, false, false, false, false, false, false, false, false, false, false, false, false, false] (by kernel_rfl) _ (by kernel_rfl) (by kernel_rfl) (by kernel_rfl) (by kernel_rfl) rfl [] (fun _ _ _ h1 h2 => h1.trans h2) (fun _ _ h => h.mono (by simp)) (staI (staI (staI (staI (staI (staI (staI (staI (staI (staI (staI (staI sta0)))))))))))) (sth (fun _ _ _ hf h => h.fr0 hf) (sth (fun _ _ _ hf h => h.fr0 hf) sth0)) (fun _ _ h => h.size) _ (Fr.refl _ _) HDR.out ?_ ?_
          · refine ⟨?_, ?_, ?_, ?_, ?_, ?_, ?_, ?_, ?_, ?_, ?_, ?_, trivial⟩
            · intro σ w' hR hd
              simp only [fill, Nat.reduceAdd, if_true, Bool.false_eq_true, if_false]
              clear hd
              go_wp2
              exact ⟨Fr.refl _ _, rfl⟩
            · intro σ w' hR hd
              simp only [fill, Nat.reduceAdd, if_true, Bool.false_eq_true, if_false]
              clear hd
              go_wp2
              exact ⟨Fr.refl _ _, rfl⟩
            · intro σ w' hR hd
              simp only [fill, Nat.reduceAdd, if_true, Bool.false_eq_true, if_false]
              clear hd
              go_wp2
              exact ⟨Fr.refl _ _, rfl⟩
            · intro σ w' hR hd
              simp only [fill, Nat.reduceAdd, if_true, Bool.false_eq_true, if_false]
              obtain h41 : σ 41 = _ := hd 1 (by decide)
              obtain h42 : σ 42 = _ := hd 2 (by decide)
              rw [h41, h42]
              clear h41 h42
              clear hd
              go_wp2
              exact ⟨Fr.refl _ _, rfl⟩
            · intro σ w' hR hd
              simp only [fill, Nat.reduceAdd, if_true, Bool.false_eq_true, if_false]
              obtain h43 : σ 43 = _ := hd 3 (by decide)
              rw [h43]
              clear h43
              clear hd
              go_wp2
              exact ⟨Fr.refl _ _, rfl⟩
            · intro σ w' hR hd
              simp only [fill, Nat.reduceAdd, if_true, Bool.false_eq_true, if_false]
              obtain h44 : σ 44 = _ := hd 4 (by decide)
              rw [h44]
              clear h44
              clear hd
              have hfr := (Fr.drew (Fr.refl (b :: bs) _)).trans hR
              obtain ⟨k0, k1, k2⟩ := HC.out
              have e1 := hfr.cell k1 HGD.out
              have e2 := hfr.cell k2 HGD.out
              clear k0 k1 k2
              go_wp2
              exact ⟨Fr.refl _ _, rfl⟩
            · intro σ w' hR hd
              simp only [fill, Nat.reduceAdd, if_true, Bool.false_eq_true, if_false]
              clear hd
              go_wp2
              exact ⟨Fr.refl _ _, rfl⟩
            · intro σ w' hR hd
              simp only [fill, Nat.reduceAdd, if_true, Bool.false_eq_true, if_false]
              clear hd
              go_wp2
              exact ⟨Fr.refl _ _, rfl⟩
            · intro σ w' hR hd
              simp only [fill, Nat.reduceAdd, if_true, Bool.false_eq_true, if_false]
              obtain h46 : σ 46 = _ := hd 6 (by decide)
              obtain h47 : σ 47 = _ := hd 7 (by decide)
              rw [h46, h47]
              clear h46 h47
              clear hd
              go_wp2
              exact ⟨Fr.refl _ _, rfl⟩
            · intro σ w' hR hd
              simp only [fill, Nat.reduceAdd, if_true, Bool.false_eq_true, if_false]
              obtain h48 : σ 48 = _ := hd 8 (by decide)
              rw [h48]
              clear h48
              clear hd
              go_wp2
              exact ⟨Fr.refl _ _, rfl⟩
            · intro σ w' hR hd
              simp only [fill, Nat.reduceAdd, if_true, Bool.false_eq_true, if_false]
              obtain h49 : σ 49 = _ := hd 9 (by decide)
              rw [h49]
              clear h49
              clear hd
              have hfr := (Fr.drew (Fr.refl (b :: bs) _)).trans hR
              obtain ⟨k0, k1, k2⟩ := HC.out
              have e1 := hfr.cell k1 HGD.out
              have e2 := hfr.cell k2 HGD.out
              clear k0 k1 k2
              go_wp2
              exact ⟨Fr.refl _ _, rfl⟩
            · intro σ w' hR hd hH
              simp only [fill, Nat.reduceAdd, if_true, Bool.false_eq_true, if_false]
              obtain h40 : σ 40 = _ := hd 0 (by decide)
              obtain h45 : σ 45 = _ := hd 5 (by decide)
              obtain h50 : σ 50 = _ := hd 10 (by decide)
              rw [h40, h45, h50]
              clear h40 h45 h50
              clear hd
              have hw : WhAt w' p g b c bs 0 X := hH
              have HWW := Hd.mk hw
              clear hw hH
              go_wp2_with fail
              refine (set_calls HWW.out HDO.out.1 HDO.out.2 HXL.out).mono ?_
              rintro e w4 ⟨rfl, hW2, hf2⟩
              have HX2 := Hd.mk hW2
              have HF2 := Hd.mk hf2
              clear hW2 hf2
              go_wp2
              exact ⟨HF2.out, rfl, HX2.out⟩
          · intro σ w3 hR hG hH
            simp only [fill, Nat.reduceAdd, if_true, Bool.false_eq_true, if_false]
            clear hG
            have hfr := (Fr.drew (Fr.refl (b :: bs) _)).trans hR
            have hw2 : WhAt w3 p g b c bs 0 (setX X d.id d.at_) := hH
            have HW2 := Hd.mk hw2
            have HF2 := Hd.mk (HF.out.weak hfr (fun x hx => .inr (HGE.out x hx)))
            have c0 := hfr.cell HC.out.1 HGD.out
            clear hfr hw2 hR hH
            go_wp2
            go_roundw
            case rel => exact ⟨k + 1, _, by omega, by omega, by go_num, HW2.out, Nat.le_trans (setX_len _ _ _) (by have := HX.out; omega), HF2.out⟩
            case measure => simp [intOf]; omega
        · have e0 : (d.kind == 0) = false := by rw [beq_eq_false_iff_ne]; exact hk0
          clear hk0
          by_cases hk1 : d.kind = 1
          · have e1 : (d.kind == 1) = true := by simpa using hk1
            clear hk1
            go_wp2_with fail
            refine (del_calls HW.out HDO.out.1).mono ?_
            rintro r w2 ⟨rfl, hW2, hf2⟩
            have HW2 := Hd.mk hW2
            have HF2 := Hd.mk (HF.out.weak hf2 (fun x hx => .inr (HGE.out x hx)))
            clear hW2 hf2 c0 c1 c2
            go_wp2
            go_roundw
            case rel => exact ⟨k + 1, _, by omega, by omega, by go_num, HW2.out, Nat.le_trans (List.length_filter_le _ _) (by have := HX.out; omega), HF2.out⟩
            case measure => simp [intOf]; omega
          · have e1 : (d.kind == 1) = false := by rw [beq_eq_false_iff_ne]; exact hk1
            clear hk1
            go_wp2
            go_roundw
            case rel => exact ⟨k + 1, X, by omega, by omega, by go_num, HW.out, by have := HX.out; omega, HF.out⟩
            case measure => simp [intOf]; omega
      · go_wp2_with fail
        refine (len_calls HW.out).mono ?_
        rintro r w3 ⟨rfl, rfl⟩
        go_wp2_with fail
        refine (next_any HW.out HXL.out).mono ?_
        rintro r w4 ⟨rfl, hf4⟩
        unfold nextV
        have HW4 := Hd.mk (HW.out.fr0 hf4)
        have HF4 := Hd.mk (HF.out.trans hf4)
        clear hf4
        go_wp2_with fail
        refine (due_calls HW4.out (Nat.lt_of_le_of_lt HXS.out (by omega)) HNOW.out).mono ?_
        rintro r w5 ⟨v5, rfl, ho, hv, hW5, hf5⟩
        have HF5 := Hd.mk (HF4.out.weak hf5 (fun x hx => .inr (HGP.out x hx)))
        have HW5 := Hd.mk hW5
        have HLA := Hd.mk (fun (q : Int × Int) (hq : q ∈ dueP X now) => left_at HW.out.ids hq)
        have hlen := due_left X now
        have hnd : 0 < X.length → (nextT X ≤ now ↔ 0 < (dueP X now).length) := fun h0 => next_due h0 now
        have HLN : Hd (0 < (leftI X now).length → now < nextT (leftI X now)) := Hd.mk (fun h => left_next h)
        have HLD2 := Hd.mk (left_due X now)
        have HL5 : Hd ((leftI X now).length < 100000) := Hd.mk (by have := HXS.out; omega)
        have HIT : Hd (∀ q ∈ dueP X now, IdOk q.1) := Hd.mk fun q hq => by
          obtain ⟨x, hx, e, -⟩ := dueP_mem hq
          rw [← e]; exact (HW.out.ok x hx).1
        have hXS := HXS.out
        obtain ⟨D, hD⟩ : ∃ D, dueP X now = D := ⟨_, rfl⟩
        rw [hD] at ho hv HLA hlen hnd HIT
        obtain ⟨Y, hY⟩ : ∃ Y, leftI X now = Y := ⟨_, rfl⟩
        rw [hY] at HLA HLN HW5 hlen HLD2 HL5
        obtain ⟨N, hN⟩ : ∃ N, X.length = N := ⟨_, rfl⟩
        obtain ⟨M, hM⟩ : ∃ M, nextT X = M := ⟨_, rfl⟩
        rw [hN] at hlen hnd hXS
        rw [hM] at hnd
        rw [hN, hM]
        have HLEN := Hd.mk hlen
        have HDN : Hd (D.length ≤ N) := Hd.mk (by omega)
        have HXS := Hd.mk hXS
        clear hD hY hN hM hW5 hf5 HX HXL HW HF HGE hlt HW4 HF4 hlen hXS
        rcases Nat.eq_zero_or_pos D.length with h0 | h0
        · obtain rfl := hv (List.eq_nil_of_length_eq_zero h0)
          obtain rfl : D = [] := List.eq_nil_of_length_eq_zero h0
          simp only [List.length_nil] at HLEN HDN
          clear h0
          clear ho hv
          rcases Nat.eq_zero_or_pos N with hN0 | hN0
          · have hnb : decide (0 < N) = false := decide_eq_false (by omega)
            rw [hnb]
            clear hnd
            obtain rfl : Y = [] := List.eq_nil_of_length_eq_zero (by have := HLEN.out; omega)
            go_wp2_with fail
            go_loopw [14] (fun i wr2 => i = .int .i64 0 ∧ Fr [] w5 wr2) (fun _ _ => 0)
            case atStart => exact ⟨rfl, Fr.refl _ _⟩
            case round =>
              obtain ⟨rfl, hfr2⟩ := hrel
              have HFR := Hd.mk hfr2
              clear hfr2
              go_wp2_with fail
              refine (next_any (HW5.out.fr0 HFR.out) (Nat.lt_trans HL5.out (by omega))).mono ?_
              rintro r w7 ⟨rfl, hf7⟩
              unfold nextV
              have hyd : decide (0 < ([] : List It).length) = false := rfl
              rw [hyd]
              clear hyd
              have HF7 := Hd.mk (HFR.out.trans hf7)
              clear hf7
              go_wp2_with fail
              refine (len_calls (HW5.out.fr0 HF7.out)).mono ?_
              rintro r w8 ⟨rfl, rfl⟩
              have HW7 := Hd.mk (HW5.out.fr0 HF7.out)
              have HF8 := Hd.mk (HF5.out.trans HF7.out)
              go_wp2_with fail
              refine (due_calls HW7.out HL5.out HNOW.out).mono ?_
              rintro r w9 ⟨v9, rfl, -, hv9, -, hf9⟩
              obtain rfl := hv9 HLD2.out
              have HF9 := Hd.mk (HF8.out.weak hf9 (fun x hx => .inr (HGP.out x hx)))
              clear hf9 hv9
              go_wp2
              go_ret
              exact ⟨rfl, HF9.out⟩
          · have hnb : decide (0 < N) = true := decide_eq_true hN0
            have hq0 : ¬ (M ≤ now) := fun h => by
              have h2 := (hnd hN0).1 h
              simp at h2
            have hq : decide (M ≤ now) = false := decide_eq_false hq0
            clear hq0
            rw [hnb]
            clear hnd
            go_wp2_with fail
            go_loopw [14] (fun i wr2 => i = .int .i64 0 ∧ Fr [] w5 wr2) (fun _ _ => 0)
            case atStart => exact ⟨rfl, Fr.refl _ _⟩
            case round =>
              obtain ⟨rfl, hfr2⟩ := hrel
              have HFR := Hd.mk hfr2
              clear hfr2
              go_wp2_with fail
              refine (next_any (HW5.out.fr0 HFR.out) (Nat.lt_trans HL5.out (by omega))).mono ?_
              rintro r w7 ⟨rfl, hf7⟩
              unfold nextV
              have HYD := Hd.mk (Nat.eq_zero_or_pos Y.length)
              rcases HYD.out with hy0 | hy0
              · have hyd : decide (0 < Y.length) = false := decide_eq_false (by omega)
                rw [hyd]
                clear hyd hy0
                clear HYD
                have HF7 := Hd.mk (HFR.out.trans hf7)
                clear hf7
                go_wp2_with fail
                refine (len_calls (HW5.out.fr0 HF7.out)).mono ?_
                rintro r w8 ⟨rfl, rfl⟩
                have hlen := HLEN.out
                have hXS := HXS.out
                have hle2 : ((Y.length : Int) == (N : Int)) = true := by rw [beq_iff_eq]; omega
                have HW7 := Hd.mk (HW5.out.fr0 HF7.out)
                have HF8 := Hd.mk (HF5.out.trans HF7.out)
                go_wp2_with fail
                refine (due_calls HW7.out HL5.out HNOW.out).mono ?_
                rintro r w9 ⟨v9, rfl, -, hv9, -, hf9⟩
                obtain rfl := hv9 HLD2.out
                have HF9 := Hd.mk (HF8.out.weak hf9 (fun x hx => .inr (HGP.out x hx)))
                clear hf9 hv9
                go_wp2
                go_ret
                exact ⟨rfl, HF9.out⟩
              · have hyd : decide (0 < Y.length) = true := decide_eq_true hy0
                have hln2 : decide (now < nextT Y) = true := decide_eq_true (HLN.out hy0)
                rw [hyd]
                clear hyd hy0
                clear HYD
                have HF7 := Hd.mk (HFR.out.trans hf7)
                clear hf7
                go_wp2_with fail
                refine (len_calls (HW5.out.fr0 HF7.out)).mono ?_
                rintro r w8 ⟨rfl, rfl⟩
                have hlen := HLEN.out
                have hXS := HXS.out
                have hle2 : ((Y.length : Int) == (N : Int)) = true := by rw [beq_iff_eq]; omega
                have HW7 := Hd.mk (HW5.out.fr0 HF7.out)
                have HF8 := Hd.mk (HF5.out.trans HF7.out)
                go_wp2_with fail
                refine (due_calls HW7.out HL5.out HNOW.out).mono ?_
                rintro r w9 ⟨v9, rfl, -, hv9, -, hf9⟩
                obtain rfl := hv9 HLD2.out
                have HF9 := Hd.mk (HF8.out.weak hf9 (fun x hx => .inr (HGP.out x hx)))
                clear hf9 hv9
                go_wp2
                go_ret
                exact ⟨rfl, HF9.out⟩
        · obtain ⟨g2, c2, rfl, hg2, hg3⟩ := own_form ho h0
          have HOW := Hd.mk ho
          have hN0 : 0 < N := by have := HDN.out; omega
          have hnb : decide (0 < N) = true := decide_eq_true hN0
          have hq0 : M ≤ now := (hnd hN0).2 h0
          have hq : decide (M ≤ now) = true := decide_eq_true hq0
          have hq2 : decide (now < M) = false := decide_eq_false (by omega)
          have hq3 : ((D.length : Int) == 0) = false := by rw [beq_eq_false_iff_ne]; omega
          have hq4 : decide ((0 : Int) < (D.length : Int)) = true := decide_eq_true (by omega)
          clear hq0
          rw [hnb]
          clear hnd ho hv
          go_wp2_with fail
          go_loopw [14] (fun i wr2 => ∃ j : Nat, j ≤ D.length ∧ i = .int .i64 j ∧ Fr [] w5 wr2) (fun i _ => D.length - (intOf i).toNat)
          case atStart => exact ⟨0, by omega, rfl, Fr.refl _ _⟩
          case round =>
            obtain ⟨j, hj2, rfl, hfr2⟩ := hrel
            have HFR := Hd.mk hfr2
            clear hfr2
            have hNN := HXS.out
            have hDN := HDN.out
            by_cases hjl : j < D.length
            · have hy := HFR.out.cell (own_cell HOW.out (j := j) (v := iv D[j]) (by rw [List.getElem?_map, List.getElem?_eq_getElem hjl]; rfl)) (by simp)
              have hat := at_calls (HW5.out.fr0 HFR.out) (HIT.out D[j] (List.getElem_mem hjl))
              unfold atV at hat
              rw [HLA.out D[j] (List.getElem_mem hjl)] at hat
              simp only [Option.map_none, Option.getD_none, Option.isSome_none] at hat
              unfold iv at hy
              have HAT := Hd.mk hat
              clear hat
              go_wp2_with fail
              refine HAT.out.mono ?_
              rintro r w6 ⟨rfl, rfl⟩
              go_wp2
              go_roundw
              case rel => exact ⟨j + 1, by omega, by go_num, HFR.out⟩
              case measure => simp [intOf]; omega
            · have hje : j = D.length := by omega
              subst hje
              go_wp2_with fail
              refine (next_any (HW5.out.fr0 HFR.out) (Nat.lt_trans HL5.out (by omega))).mono ?_
              rintro r w7 ⟨rfl, hf7⟩
              unfold nextV
              have HYD := Hd.mk (Nat.eq_zero_or_pos Y.length)
              rcases HYD.out with hy0 | hy0
              · have hyd : decide (0 < Y.length) = false := decide_eq_false (by omega)
                rw [hyd]
                clear hyd hy0
                clear HYD
                have HF7 := Hd.mk (HFR.out.trans hf7)
                clear hf7
                go_wp2_with fail
                refine (len_calls (HW5.out.fr0 HF7.out)).mono ?_
                rintro r w8 ⟨rfl, rfl⟩
                have hlen := HLEN.out
                have hXS := HXS.out
                have hle2 : ((Y.length : Int) == (N : Int) - (D.length : Int)) = true := by rw [beq_iff_eq]; omega
                have HW7 := Hd.mk (HW5.out.fr0 HF7.out)
                have HF8 := Hd.mk (HF5.out.trans HF7.out)
                go_wp2_with fail
                refine (due_calls HW7.out HL5.out HNOW.out).mono ?_
                rintro r w9 ⟨v9, rfl, -, hv9, -, hf9⟩
                obtain rfl := hv9 HLD2.out
                have HF9 := Hd.mk (HF8.out.weak hf9 (fun x hx => .inr (HGP.out x hx)))
                clear hf9 hv9
                go_wp2
                go_ret
                exact ⟨rfl, HF9.out⟩
              · have hyd : decide (0 < Y.length) = true := decide_eq_true hy0
                have hln2 : decide (now < nextT Y) = true := decide_eq_true (HLN.out hy0)
                rw [hyd]
                clear hyd hy0
                clear HYD
                have HF7 := Hd.mk (HFR.out.trans hf7)
                clear hf7
                go_wp2_with fail
                refine (len_calls (HW5.out.fr0 HF7.out)).mono ?_
                rintro r w8 ⟨rfl, rfl⟩
                have hlen := HLEN.out
                have hXS := HXS.out
                have hle2 : ((Y.length : Int) == (N : Int) - (D.length : Int)) = true := by rw [beq_iff_eq]; omega
                have HW7 := Hd.mk (HW5.out.fr0 HF7.out)
                have HF8 := Hd.mk (HF5.out.trans HF7.out)
                go_wp2_with fail
                refine (due_calls HW7.out HL5.out HNOW.out).mono ?_
                rintro r w9 ⟨v9, rfl, -, hv9, -, hf9⟩
                obtain rfl := hv9 HLD2.out
                have HF9 := Hd.mk (HF8.out.weak hf9 (fun x hx => .inr (HGP.out x hx)))
                clear hf9 hv9
                go_wp2
                go_ret
                exact ⟨rfl, HF9.out⟩
    · go_wp2_with fail
      refine (len_calls HW.out).mono ?_
      rintro r w3 ⟨rfl, rfl⟩
      go_wp2_with fail
      refine (next_any HW.out HXL.out).mono ?_
      rintro r w4 ⟨rfl, hf4⟩
      unfold nextV
      have HW4 := Hd.mk (HW.out.fr0 hf4)
      have HF4 := Hd.mk (HF.out.trans hf4)
      clear hf4
      go_wp2_with fail
      refine (due_calls HW4.out (Nat.lt_of_le_of_lt HXS.out (by omega)) HNOW.out).mono ?_
      rintro r w5 ⟨v5, rfl, ho, hv, hW5, hf5⟩
      have HF5 := Hd.mk (HF4.out.weak hf5 (fun x hx => .inr (HGP.out x hx)))
      have HW5 := Hd.mk hW5
      have HLA := Hd.mk (fun (q : Int × Int) (hq : q ∈ dueP X now) => left_at HW.out.ids hq)
      have hlen := due_left X now
      have hnd : 0 < X.length → (nextT X ≤ now ↔ 0 < (dueP X now).length) := fun h0 => next_due h0 now
      have HLN : Hd (0 < (leftI X now).length → now < nextT (leftI X now)) := Hd.mk (fun h => left_next h)
      have HLD2 := Hd.mk (left_due X now)
      have HL5 : Hd ((leftI X now).length < 100000) := Hd.mk (by have := HXS.out; omega)
      have HIT : Hd (∀ q ∈ dueP X now, IdOk q.1) := Hd.mk fun q hq => by
        obtain ⟨x, hx, e, -⟩ := dueP_mem hq
        rw [← e]; exact (HW.out.ok x hx).1
      have hXS := HXS.out
      obtain ⟨D, hD⟩ : ∃ D, dueP X now = D := ⟨_, rfl⟩
      rw [hD] at ho hv HLA hlen hnd HIT
      obtain ⟨Y, hY⟩ : ∃ Y, leftI X now = Y := ⟨_, rfl⟩
      rw [hY] at HLA HLN HW5 hlen HLD2 HL5
      obtain ⟨N, hN⟩ : ∃ N, X.length = N := ⟨_, rfl⟩
      obtain ⟨M, hM⟩ : ∃ M, nextT X = M := ⟨_, rfl⟩
      rw [hN] at hlen hnd hXS
      rw [hM] at hnd
      rw [hN, hM]
      have HLEN := Hd.mk hlen
      have HDN : Hd (D.length ≤ N) := Hd.mk (by omega)
      have HXS := Hd.mk hXS
      clear hD hY hN hM hW5 hf5 HX HXL HW HF HGE hlt HW4 HF4 hlen hXS
      rcases Nat.eq_zero_or_pos D.length with h0 | h0
      · obtain rfl := hv (List.eq_nil_of_length_eq_zero h0)
        obtain rfl : D = [] := List.eq_nil_of_length_eq_zero h0
        simp only [List.length_nil] at HLEN HDN
        clear h0
        clear ho hv
        rcases Nat.eq_zero_or_pos N with hN0 | hN0
        · have hnb : decide (0 < N) = false := decide_eq_false (by omega)
          rw [hnb]
          clear hnd
          obtain rfl : Y = [] := List.eq_nil_of_length_eq_zero (by have := HLEN.out; omega)
          go_wp2_with fail
          go_loopw [14] (fun i wr2 => i = .int .i64 0 ∧ Fr [] w5 wr2) (fun _ _ => 0)
          case atStart => exact ⟨rfl, Fr.refl _ _⟩
          case round =>
            obtain ⟨rfl, hfr2⟩ := hrel
            have HFR := Hd.mk hfr2
            clear hfr2
            go_wp2_with fail
            refine (next_any (HW5.out.fr0 HFR.out) (Nat.lt_trans HL5.out (by omega))).mono ?_
            rintro r w7 ⟨rfl, hf7⟩
            unfold nextV
            have hyd : decide (0 < ([] : List It).length) = false := rfl
            rw [hyd]
            clear hyd
            have HF7 := Hd.mk (HFR.out.trans hf7)
            clear hf7
            go_wp2_with fail
            refine (len_calls (HW5.out.fr0 HF7.out)).mono ?_
            rintro r w8 ⟨rfl, rfl⟩
            have HW7 := Hd.mk (HW5.out.fr0 HF7.out)
            have HF8 := Hd.mk (HF5.out.trans HF7.out)
            go_wp2_with fail
            refine (due_calls HW7.out HL5.out HNOW.out).mono ?_
            rintro r w9 ⟨v9, rfl, -, hv9, -, hf9⟩
            obtain rfl := hv9 HLD2.out
            have HF9 := Hd.mk (HF8.out.weak hf9 (fun x hx => .inr (HGP.out x hx)))
            clear hf9 hv9
            go_wp2
            go_ret
            exact ⟨rfl, HF9.out⟩
        · have hnb : decide (0 < N) = true := decide_eq_true hN0
          have hq0 : ¬ (M ≤ now) := fun h => by
            have h2 := (hnd hN0).1 h
            simp at h2
          have hq : decide (M ≤ now) = false := decide_eq_false hq0
          clear hq0
          rw [hnb]
          clear hnd
          go_wp2_with fail
          go_loopw [14] (fun i wr2 => i = .int .i64 0 ∧ Fr [] w5 wr2) (fun _ _ => 0)
          case atStart => exact ⟨rfl, Fr.refl _ _⟩
          case round =>
            obtain ⟨rfl, hfr2⟩ := hrel
            have HFR := Hd.mk hfr2
            clear hfr2
            go_wp2_with fail
            refine (next_any (HW5.out.fr0 HFR.out) (Nat.lt_trans HL5.out (by omega))).mono ?_
            rintro r w7 ⟨rfl, hf7⟩
            unfold nextV
            have HYD := Hd.mk (Nat.eq_zero_or_pos Y.length)
            rcases HYD.out with hy0 | hy0
            · have hyd : decide (0 < Y.length) = false := decide_eq_false (by omega)
              rw [hyd]
              clear hyd hy0
              clear HYD
              have HF7 := Hd.mk (HFR.out.trans hf7)
              clear hf7
              go_wp2_with fail
              refine (len_calls (HW5.out.fr0 HF7.out)).mono ?_
              rintro r w8 ⟨rfl, rfl⟩
              have hlen := HLEN.out
              have hXS := HXS.out
              have hle2 : ((Y.length : Int) == (N : Int)) = true := by rw [beq_iff_eq]; omega
              have HW7 := Hd.mk (HW5.out.fr0 HF7.out)
              have HF8 := Hd.mk (HF5.out.trans HF7.out)
              go_wp2_with fail
              refine (due_calls HW7.out HL5.out HNOW.out).mono ?_
              rintro r w9 ⟨v9, rfl, -, hv9, -, hf9⟩
              obtain rfl := hv9 HLD2.out
              have HF9 := Hd.mk (HF8.out.weak hf9 (fun x hx => .inr (HGP.out x hx)))
              clear hf9 hv9
              go_wp2
              go_ret
              exact ⟨rfl, HF9.out⟩
            · have hyd : decide (0 < Y.length) = true := decide_eq_true hy0
              have hln2 : decide (now < nextT Y) = true := decide_eq_true (HLN.out hy0)
              rw [hyd]
              clear hyd hy0
              clear HYD
              have HF7 := Hd.mk (HFR.out.trans hf7)
              clear hf7
              go_wp2_with fail
              refine (len_calls (HW5.out.fr0 HF7.out)).mono ?_
              rintro r w8 ⟨rfl, rfl⟩
              have hlen := HLEN.out
              have hXS := HXS.out
              have hle2 : ((Y.length : Int) == (N : Int)) = true := by rw [beq_iff_eq]; omega
              have HW7 := Hd.mk (HW5.out.fr0 HF7.out)
              have HF8 := Hd.mk (HF5.out.trans HF7.out)
              go_wp2_with fail
              refine (due_calls HW7.out HL5.out HNOW.out).mono ?_
              rintro r w9 ⟨v9, rfl, -, hv9, -, hf9⟩
              obtain rfl := hv9 HLD2.out
              have HF9 := Hd.mk (HF8.out.weak hf9 (fun x hx => .inr (HGP.out x hx)))
              clear hf9 hv9
              go_wp2
              go_ret
              exact ⟨rfl, HF9.out⟩
      · obtain ⟨g2, c2, rfl, hg2, hg3⟩ := own_form ho h0
        have HOW := Hd.mk ho
        have hN0 : 0 < N := by have := HDN.out; omega
        have hnb : decide (0 < N) = true := decide_eq_true hN0
        have hq0 : M ≤ now := (hnd hN0).2 h0
        have hq : decide (M ≤ now) = true := decide_eq_true hq0
        have hq2 : decide (now < M) = false := decide_eq_false (by omega)
        have hq3 : ((D.length : Int) == 0) = false := by rw [beq_eq_false_iff_ne]; omega
        have hq4 : decide ((0 : Int) < (D.length : Int)) = true := decide_eq_true (by omega)
        clear hq0
        rw [hnb]
        clear hnd ho hv
        go_wp2_with fail
        go_loopw [14] (fun i wr2 => ∃ j : Nat, j ≤ D.length ∧ i = .int .i64 j ∧ Fr [] w5 wr2) (fun i _ => D.length - (intOf i).toNat)
        case atStart => exact ⟨0, by omega, rfl, Fr.refl _ _⟩
        case round =>
          obtain ⟨j, hj2, rfl, hfr2⟩ := hrel
          have HFR := Hd.mk hfr2
          clear hfr2
          have hNN := HXS.out
          have hDN := HDN.out
          by_cases hjl : j < D.length
          · have hy := HFR.out.cell (own_cell HOW.out (j := j) (v := iv D[j]) (by rw [List.getElem?_map, List.getElem?_eq_getElem hjl]; rfl)) (by simp)
            have hat := at_calls (HW5.out.fr0 HFR.out) (HIT.out D[j] (List.getElem_mem hjl))
            unfold atV at hat
            rw [HLA.out D[j] (List.getElem_mem hjl)] at hat
            simp only [Option.map_none, Option.getD_none, Option.isSome_none] at hat
            unfold iv at hy
            have HAT := Hd.mk hat
            clear hat
            go_wp2_with fail
            refine HAT.out.mono ?_
            rintro r w6 ⟨rfl, rfl⟩
            go_wp2
            go_roundw
            case rel => exact ⟨j + 1, by omega, by go_num, HFR.out⟩
            case measure => simp [intOf]; omega
          · have hje : j = D.length := by omega
            subst hje
            go_wp2_with fail
            refine (next_any (HW5.out.fr0 HFR.out) (Nat.lt_trans HL5.out (by omega))).mono ?_
            rintro r w7 ⟨rfl, hf7⟩
            unfold nextV
            have HYD := Hd.mk (Nat.eq_zero_or_pos Y.length)
            rcases HYD.out with hy0 | hy0
            · have hyd : decide (0 < Y.length) = false := decide_eq_false (by omega)
              rw [hyd]
              clear hyd hy0
              clear HYD
              have HF7 := Hd.mk (HFR.out.trans hf7)
              clear hf7
              go_wp2_with fail
              refine (len_calls (HW5.out.fr0 HF7.out)).mono ?_
              rintro r w8 ⟨rfl, rfl⟩
              have hlen := HLEN.out
              have hXS := HXS.out
              have hle2 : ((Y.length : Int) == (N : Int) - (D.length : Int)) = true := by rw [beq_iff_eq]; omega
              have HW7 := Hd.mk (HW5.out.fr0 HF7.out)
              have HF8 := Hd.mk (HF5.out.trans HF7.out)
              go_wp2_with fail
              refine (due_calls HW7.out HL5.out HNOW.out).mono ?_
              rintro r w9 ⟨v9, rfl, -, hv9, -, hf9⟩
              obtain rfl := hv9 HLD2.out
              have HF9 := Hd.mk (HF8.out.weak hf9 (fun x hx => .inr (HGP.out x hx)))
              clear hf9 hv9
              go_wp2
              go_ret
              exact ⟨rfl, HF9.out⟩
            · have hyd : decide (0 < Y.length) = true := decide_eq_true hy0
              have hln2 : decide (now < nextT Y) = true := decide_eq_true (HLN.out hy0)
              rw [hyd]
              clear hyd hy0
              clear HYD
              have HF7 := Hd.mk (HFR.out.trans hf7)
              clear hf7
              go_wp2_with fail
              refine (len_calls (HW5.out.fr0 HF7.out)).mono ?_
              rintro r w8 ⟨rfl, rfl⟩
              have hlen := HLEN.out
              have hXS := HXS.out
              have hle2 : ((Y.length : Int) == (N : Int) - (D.length : Int)) = true := by rw [beq_iff_eq]; omega
              have HW7 := Hd.mk (HW5.out.fr0 HF7.out)
              have HF8 := Hd.mk (HF5.out.trans HF7.out)
              go_wp2_with fail
              refine (due_calls HW7.out HL5.out HNOW.out).mono ?_
              rintro r w9 ⟨v9, rfl, -, hv9, -, hf9⟩
              obtain rfl := hv9 HLD2.out
              have HF9 := Hd.mk (HF8.out.weak hf9 (fun x hx => .inr (HGP.out x hx)))
              clear hf9 hv9
              go_wp2
              go_ret
              exact ⟨rfl, HF9.out⟩
end Go.Proofs.Ythnbdpcbagobhaa
