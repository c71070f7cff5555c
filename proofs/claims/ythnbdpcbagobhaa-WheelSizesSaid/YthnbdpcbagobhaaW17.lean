import Derived.Test.YthnbdpcbagobhaaW14
namespace Go.Proofs.Ythnbdpcbagobhaa
open Go Go.RowKit Go.Proofs.MapL Go.Proofs.YthnbdpcbagobhaaW.PrintWords

set_option maxRecDepth 100000 in
set_option maxHeartbeats 8000000 in
theorem sizes_law {w : World} {v : Value} {ds : List Wd} {sa sb : Int} (ha : 0 ≤ sa ∧ sa < 256) (hb : 0 ≤ sb ∧ sb < 256) (hD : DeedsAt w v ds) :
    Calls Try.prog 5 #[.int .u8 sa, .int .u8 sb, v] w fun r w' => r = .returned (.bool true) ∧ Fr [] w w' := by
  obtain ⟨hle, hok, A0, cd, rfl, hat⟩ := hD
  obtain ⟨na, rfl⟩ := Int.eq_ofNat_of_zero_le ha.1
  obtain ⟨nb, rfl⟩ := Int.eq_ofNat_of_zero_le hb.1
  have HAT := Hd.mk hat
  have HOK := Hd.mk hok
  clear hat hok
  go_enter Try.func5, Try.ntmps5
  go_wp2_with fail
  refine (shown_calls _).mono ?_
  rintro r ws ⟨rfl, hF0⟩
  go_wp2_with fail
  refine (new_calls (1 + na) (by omega) (by omega) _).mono ?_
  rintro r w1 ⟨p1, g1, b1, c1, bs1, rfl, hW1, hn1, hf1, hge1⟩
  have HWO := Hd.mk hW1
  have HF1 := Hd.mk hf1
  have HF0 := Hd.mk hF0
  have HGE1 := Hd.mk hge1
  clear hW1 hf1 hF0 hge1 hn1
  go_wp2_with fail
  refine (new_calls (1 + nb) (by omega) (by omega) _).mono ?_
  rintro r w2 ⟨p2, g2, b2, c2, bs2, rfl, hW2, hn2, hf2, hge2⟩
  have hlt1 := HWO.out.lt
  have hge1 := HGE1.out
  obtain ⟨SS, hSS⟩ : ∃ SS, (p1 :: b1 :: bs1) ++ (p2 :: b2 :: bs2) = SS := ⟨_, rfl⟩
  have sub1 : ∀ x, x ∈ p1 :: b1 :: bs1 → x ∈ p1 :: g1 :: b1 :: bs1 := fun x hx => by simp only [List.mem_cons] at hx ⊢; rcases hx with h | h | h <;> simp [h]
  have sub2 : ∀ x, x ∈ p2 :: b2 :: bs2 → x ∈ p2 :: g2 :: b2 :: bs2 := fun x hx => by simp only [List.mem_cons] at hx ⊢; rcases hx with h | h | h <;> simp [h]
  have HS1p : Hd (∀ x ∈ p1 :: b1 :: bs1, x ∈ SS) := Hd.mk fun x hx => by rw [← hSS]; exact List.mem_append_left _ hx
  have HS2p : Hd (∀ x ∈ p2 :: b2 :: bs2, x ∈ SS) := Hd.mk fun x hx => by rw [← hSS]; exact List.mem_append_right _ hx
  have HS1 : Hd (∀ x ∈ b1 :: bs1, x ∈ SS) := Hd.mk fun x hx => HS1p.out x (List.mem_cons_of_mem _ hx)
  have HS2 : Hd (∀ x ∈ b2 :: bs2, x ∈ SS) := Hd.mk fun x hx => HS2p.out x (List.mem_cons_of_mem _ hx)
  have HD2p : Hd (∀ x ∈ p2 :: g2 :: b2 :: bs2, x ∉ p1 :: b1 :: bs1) := Hd.mk fun x hx hy => by have := hge2 x hx; have := hlt1 x (sub1 x hy); omega
  have HD1p : Hd (∀ x ∈ p1 :: g1 :: b1 :: bs1, x ∉ p2 :: b2 :: bs2) := Hd.mk fun x hx hy => by have := hlt1 x hx; have := hge2 x (sub2 x hy); omega
  have HD2 : Hd (∀ x ∈ p2 :: g2 :: b2 :: bs2, x ∉ b1 :: bs1) := Hd.mk fun x hx hy => HD2p.out x hx (List.mem_cons_of_mem _ hy)
  have HD1 : Hd (∀ x ∈ p1 :: g1 :: b1 :: bs1, x ∉ b2 :: bs2) := Hd.mk fun x hx hy => HD1p.out x hx (List.mem_cons_of_mem _ hy)
  have hF := (HF0.out.trans HF1.out).trans hf2
  have HGS : Hd (∀ x ∈ SS, w.heap.size ≤ x) := Hd.mk fun x hx => by
    rw [← hSS] at hx
    have z0 := HF0.out.size
    have z1 := HF1.out.size
    rcases List.mem_append.1 hx with h | h
    · have := hge1 x (sub1 x h); omega
    · have := hge2 x (sub2 x h); omega
  have HSL : Hd (∀ x ∈ SS, x ∈ p1 :: g1 :: b1 :: bs1 ∨ x ∈ p2 :: g2 :: b2 :: bs2) := Hd.mk fun x hx => by
    rw [← hSS] at hx
    rcases List.mem_append.1 hx with h | h
    · exact .inl (sub1 x h)
    · exact .inr (sub2 x h)
  have hWW := And.intro (HWO.out.fr0 hf2) hW2
  clear hf2 hge2 hn2 hSS hlt1 hge1 sub1 sub2 hW2 HGE1 HWO HF0 HF1
  go_wp2_with fail
  go_loopw [10] (fun i wr => ∃ (k : Nat) (X : List It) (tu : Int), k ≤ ds.length ∧ k ≤ 200 ∧ i = .int .i64 k ∧ (WhAt wr p1 g1 b1 c1 bs1 tu X ∧ WhAt wr p2 g2 b2 c2 bs2 tu X) ∧ X.length ≤ k ∧ Fr [] w wr) (fun i _ => 200 - (intOf i).toNat)
  case atStart => exact ⟨0, [], 0, Nat.zero_le _, by omega, rfl, hWW, by simp, hF⟩
  case round =>
    obtain ⟨k, X, tu, hk, hk2, rfl, hWr, hX, hFr⟩ := hrel
    have HW := Hd.mk hWr
    have HF := Hd.mk hFr
    have HX := Hd.mk hX
    have HXL : Hd (X.length < 1000000) := Hd.mk (by omega)
    have HXD : Hd (X.length < 100000) := Hd.mk (by omega)
    clear hWr hFr hX hWW hF
    by_cases hlt : k < ds.length
    · by_cases hlt2 : k < 200
      · obtain ⟨gd, off, rfl, hgl, hcc⟩ := HAT.out (by omega)
        obtain ⟨d, hd⟩ : ∃ d, ds[k] = d := ⟨_, rfl⟩
        have hcd := hcc k hlt
        have hdo := HOK.out (ds[k]) (List.getElem_mem hlt)
        rw [hd] at hcd hdo
        have HDO := Hd.mk hdo
        have HGD : Hd (gd ∉ SS) := Hd.mk fun hx => by have := HGS.out gd hx; omega
        have hw0 : ∀ j u, d.c[j]? = some u → wr.cell? ⟨gd, off + k * 3 + j, none⟩ = some u := fun j u hu => HF.out.cell (hcd j u hu) (by simp)
        have c0 : wr.cell? ⟨gd, off + k * 3, none⟩ = some (.int .i64 d.kind) := hw0 0 _ rfl
        have c1_ : wr.cell? ⟨gd, off + k * 3 + 1, none⟩ = some (.int .i64 d.id) := hw0 1 _ rfl
        have c2_ : wr.cell? ⟨gd, off + k * 3 + 2, none⟩ = some (.int .u64 d.at_) := hw0 2 _ rfl
        have HDR : Hd ((WhAt wr.drew p1 g1 b1 c1 bs1 tu X) ∧ (WhAt wr.drew p2 g2 b2 c2 bs2 tu X)) := Hd.mk ⟨HW.out.1.fr0 (Fr.drew (Fr.refl [] _)), HW.out.2.fr0 (Fr.drew (Fr.refl [] _))⟩
        have HC := Hd.mk (And.intro c0 (And.intro c1_ c2_))
        clear hcd hdo hd hcc hw0 c1_ c2_
        by_cases hk0 : d.kind = 0
        · have e0 : (d.kind == 0) = true := by simpa using hk0
          clear hk0
          go_wp2_with fail
          clear c0
          refine wp_region_gs { R := Fr SS, R1 := Fr [], gs := [Is (.pointer (some ⟨p1, 0, none⟩)), Is (.slice (some ⟨gd, off, none⟩) ds.length cd), Is (.int .i64 k), Is (.pointer (some ⟨gd, off + k * 3, none⟩)), Is (.pointer (some ⟨gd, off + k * 3 + 1, none⟩)), Is (.int .i64 d.id), Is (.slice (some ⟨gd, off, none⟩) ds.length cd), Is (.int .i64 k), Is (.pointer (some ⟨gd, off + k * 3, none⟩)), Is (.pointer (some ⟨gd, off + k * 3 + 2, none⟩)), Is (.int .u64 d.at_), Is (.int .i64 0)], ds := [some 57, some 58, some 59, some 60, some 61, some 62, some 63, some 64, some 65, some 66, some 67, some 68], fl := [false, false, false, false, false, false, false, false, false, false, false, true], hs := [fun _ w2 => (WhAt w2 p1 g1 b1 c1 bs1 tu X) ∧ (WhAt w2 p2 g2 b2 c2 bs2 tu X), fun _ w2 => (WhAt w2 p1 g1 b1 c1 bs1 tu (setX X d.id d.at_)) ∧ (WhAt w2 p2 g2 b2 c2 bs2 tu X)], hd := [[], []] } [false, false, false, false, false, false, false, false, false, false, false, false, false, false, false, false, false, false, false, false, false, false, false, false, false, false, false, false, false, false, false, false, false, false, false, false, false, false, false, false, false, false, false, false, false, false, false, false, false, false, false, false, false, false, false, false, false, true, true, true, true, true, true, true, true, true, true, true, true, false, false, false, false, false, false, false, false, false, false, false, false, false, false, false, false, false, false, false, false, false, false, false, false, false, false, false, false, false, false, false, false, false, false, false, false, false, false, false, false, false, false, false, false, false, false, false, false, false, false, false, false, false, false, false, false, false] (by kernel_rfl) _ (by kernel_rfl) (by kernel_rfl) (by kernel_rfl) (by kernel_rfl) rfl [] (fun _ _ _ h1 h2 => h1.trans h2) (fun _ _ h => h.mono (by simp)) (staI (staI (staI (staI (staI (staI (staI (staI (staI (staI (staI (staI sta0)))))))))))) (sth (fun _ _ _ hf h => ⟨h.1.fr0 hf, h.2.fr0 hf⟩) (sth (fun _ _ _ hf h => ⟨h.1.fr0 hf, h.2.fr0 hf⟩) sth0)) (fun _ _ h => h.size) _ (Fr.refl _ _) HDR.out ?_ ?_
          · refine ⟨?_, ?_, ?_, ?_, ?_, ?_, ?_, ?_, ?_, ?_, ?_, ?_, trivial⟩
            · intro σ w' hR hd
              simp only [fill, Nat.reduceAdd, if_true, Bool.false_eq_true, if_false]
              clear hd
              go_wp2
              exact ⟨Fr.refl _ _, rfl⟩
            · intro σ w' hR hd
              simp only [fill, Nat.reduceAdd, if_true, Bool.false_eq_true, if_false]
              clear hd
              go_wp2
              exact ⟨Fr.refl _ _, rfl⟩
            · intro σ w' hR hd
              simp only [fill, Nat.reduceAdd, if_true, Bool.false_eq_true, if_false]
              clear hd
              go_wp2
              exact ⟨Fr.refl _ _, rfl⟩
            · intro σ w' hR hd
              simp only [fill, Nat.reduceAdd, if_true, Bool.false_eq_true, if_false]
              obtain h58 : σ 58 = _ := hd 1 (by decide)
              obtain h59 : σ 59 = _ := hd 2 (by decide)
              rw [h58, h59]
              clear h58 h59
              clear hd
              go_wp2
              exact ⟨Fr.refl _ _, rfl⟩
            · intro σ w' hR hd
              simp only [fill, Nat.reduceAdd, if_true, Bool.false_eq_true, if_false]
              obtain h60 : σ 60 = _ := hd 3 (by decide)
              rw [h60]
              clear h60
              clear hd
              go_wp2
              exact ⟨Fr.refl _ _, rfl⟩
            · intro σ w' hR hd
              simp only [fill, Nat.reduceAdd, if_true, Bool.false_eq_true, if_false]
              obtain h61 : σ 61 = _ := hd 4 (by decide)
              rw [h61]
              clear h61
              clear hd
              have hfr := (Fr.drew (Fr.refl SS _)).trans hR
              obtain ⟨k0, k1, k2⟩ := HC.out
              have e1 := hfr.cell k1 HGD.out
              have e2 := hfr.cell k2 HGD.out
              clear k0 k1 k2
              go_wp2
              exact ⟨Fr.refl _ _, rfl⟩
            · intro σ w' hR hd
              simp only [fill, Nat.reduceAdd, if_true, Bool.false_eq_true, if_false]
              clear hd
              go_wp2
              exact ⟨Fr.refl _ _, rfl⟩
            · intro σ w' hR hd
              simp only [fill, Nat.reduceAdd, if_true, Bool.false_eq_true, if_false]
              clear hd
              go_wp2
              exact ⟨Fr.refl _ _, rfl⟩
            · intro σ w' hR hd
              simp only [fill, Nat.reduceAdd, if_true, Bool.false_eq_true, if_false]
              obtain h63 : σ 63 = _ := hd 6 (by decide)
              obtain h64 : σ 64 = _ := hd 7 (by decide)
              rw [h63, h64]
              clear h63 h64
              clear hd
              go_wp2
              exact ⟨Fr.refl _ _, rfl⟩
            · intro σ w' hR hd
              simp only [fill, Nat.reduceAdd, if_true, Bool.false_eq_true, if_false]
              obtain h65 : σ 65 = _ := hd 8 (by decide)
              rw [h65]
              clear h65
              clear hd
              go_wp2
              exact ⟨Fr.refl _ _, rfl⟩
            · intro σ w' hR hd
              simp only [fill, Nat.reduceAdd, if_true, Bool.false_eq_true, if_false]
              obtain h66 : σ 66 = _ := hd 9 (by decide)
              rw [h66]
              clear h66
              clear hd
              have hfr := (Fr.drew (Fr.refl SS _)).trans hR
              obtain ⟨k0, k1, k2⟩ := HC.out
              have e1 := hfr.cell k1 HGD.out
              have e2 := hfr.cell k2 HGD.out
              clear k0 k1 k2
              go_wp2
              exact ⟨Fr.refl _ _, rfl⟩
            · intro σ w' hR hd hH
              simp only [fill, Nat.reduceAdd, if_true, Bool.false_eq_true, if_false]
              obtain h57 : σ 57 = _ := hd 0 (by decide)
              obtain h62 : σ 62 = _ := hd 5 (by decide)
              obtain h67 : σ 67 = _ := hd 10 (by decide)
              rw [h57, h62, h67]
              clear h57 h62 h67
              clear hd
              have hw : (WhAt w' p1 g1 b1 c1 bs1 tu X) ∧ (WhAt w' p2 g2 b2 c2 bs2 tu X) := hH
              have HWW := Hd.mk hw
              clear hw hH
              go_wp2_with fail
              refine (set_calls HWW.out.1 HDO.out.1 HDO.out.2 HXL.out).mono ?_
              rintro e w4 ⟨rfl, hW2, hf2⟩
              have HX2 := Hd.mk hW2
              have HF2 := Hd.mk (hf2.mono HS1.out)
              have HO2 := Hd.mk (HWW.out.2.fr hf2 HD2.out)
              clear hW2 hf2
              go_wp2
              exact ⟨HF2.out, rfl, ⟨HX2.out, HO2.out⟩⟩
          · intro σ w3 hR hG hH
            simp only [fill, Nat.reduceAdd, if_true, Bool.false_eq_true, if_false]
            clear hG
            have hfr := (Fr.drew (Fr.refl SS _)).trans hR
            have hw2 : (WhAt w3 p1 g1 b1 c1 bs1 tu (setX X d.id d.at_)) ∧ (WhAt w3 p2 g2 b2 c2 bs2 tu X) := hH
            have HFa := Hd.mk hfr
            have HDR : Hd ((WhAt w3.drew p1 g1 b1 c1 bs1 tu (setX X d.id d.at_)) ∧ (WhAt w3.drew p2 g2 b2 c2 bs2 tu X)) := Hd.mk ⟨hw2.1.fr0 (Fr.drew (Fr.refl [] _)), hw2.2.fr0 (Fr.drew (Fr.refl [] _))⟩
            have HC0 := HC
            have HC : Hd (w3.cell? ⟨gd, off + k * 3, none⟩ = some (.int .i64 d.kind) ∧ w3.cell? ⟨gd, off + k * 3 + 1, none⟩ = some (.int .i64 d.id) ∧ w3.cell? ⟨gd, off + k * 3 + 2, none⟩ = some (.int .u64 d.at_)) := Hd.mk ⟨hfr.cell HC0.out.1 HGD.out, hfr.cell HC0.out.2.1 HGD.out, hfr.cell HC0.out.2.2 HGD.out⟩
            clear hfr hw2 hR hH HC0
            go_wp2_with fail
            refine wp_region_gs { R := Fr SS, R1 := Fr [], gs := [Is (.pointer (some ⟨p2, 0, none⟩)), Is (.slice (some ⟨gd, off, none⟩) ds.length cd), Is (.int .i64 k), Is (.pointer (some ⟨gd, off + k * 3, none⟩)), Is (.pointer (some ⟨gd, off + k * 3 + 1, none⟩)), Is (.int .i64 d.id), Is (.slice (some ⟨gd, off, none⟩) ds.length cd), Is (.int .i64 k), Is (.pointer (some ⟨gd, off + k * 3, none⟩)), Is (.pointer (some ⟨gd, off + k * 3 + 2, none⟩)), Is (.int .u64 d.at_), Is (.int .i64 0)], ds := [some 69, some 70, some 71, some 72, some 73, some 74, some 75, some 76, some 77, some 78, some 79, some 80], fl := [false, false, false, false, false, false, false, false, false, false, false, true], hs := [fun _ w2 => (WhAt w2 p1 g1 b1 c1 bs1 tu (setX X d.id d.at_)) ∧ (WhAt w2 p2 g2 b2 c2 bs2 tu X), fun _ w2 => (WhAt w2 p1 g1 b1 c1 bs1 tu (setX X d.id d.at_)) ∧ (WhAt w2 p2 g2 b2 c2 bs2 tu (setX X d.id d.at_))], hd := [[], []] } [false, false, false, false, false, false, false, false, false, false, false, false, false, false, false, false, false, false, false, false, false, false, false, false, false, false, false, false, false, false, false, false, false, false, false, false, false, false, false, false, false, false, false, false, false, false, false, false, false, false, false, false, false, false, false, false, false, false, false, false, false, false, false, false, false, false, false, false, false, true, true, true, true, true, true, true, true, true, true, true, true, false, false, false, false, false, false, false, false, false, false, false, false, false, false, false, false, false, false, false, false, false, false, false, false, false, false, false, false, false, false, false, false, false, false, false, false, false, false, false, false, false, false, false, false, false] (by kernel_rfl) _ (by kernel_rfl) (by kernel_rfl) (by kernel_rfl) (by kernel_rfl) rfl [] (fun _ _ _ h1 h2 => h1.trans h2) (fun _ _ h => h.mono (by simp)) (staI (staI (staI (staI (staI (staI (staI (staI (staI (staI (staI (staI sta0)))))))))))) (sth (fun _ _ _ hf h => ⟨h.1.fr0 hf, h.2.fr0 hf⟩) (sth (fun _ _ _ hf h => ⟨h.1.fr0 hf, h.2.fr0 hf⟩) sth0)) (fun _ _ h => h.size) _ (Fr.refl _ _) HDR.out ?_ ?_
            · refine ⟨?_, ?_, ?_, ?_, ?_, ?_, ?_, ?_, ?_, ?_, ?_, ?_, trivial⟩
              · intro σ w' hR hd
                simp only [fill, Nat.reduceAdd, if_true, Bool.false_eq_true, if_false]
                clear hd
                go_wp2
                exact ⟨Fr.refl _ _, rfl⟩
              · intro σ w' hR hd
                simp only [fill, Nat.reduceAdd, if_true, Bool.false_eq_true, if_false]
                clear hd
                go_wp2
                exact ⟨Fr.refl _ _, rfl⟩
              · intro σ w' hR hd
                simp only [fill, Nat.reduceAdd, if_true, Bool.false_eq_true, if_false]
                clear hd
                go_wp2
                exact ⟨Fr.refl _ _, rfl⟩
              · intro σ w' hR hd
                simp only [fill, Nat.reduceAdd, if_true, Bool.false_eq_true, if_false]
                obtain h70 : σ 70 = _ := hd 1 (by decide)
                obtain h71 : σ 71 = _ := hd 2 (by decide)
                rw [h70, h71]
                clear h70 h71
                clear hd
                go_wp2
                exact ⟨Fr.refl _ _, rfl⟩
              · intro σ w' hR hd
                simp only [fill, Nat.reduceAdd, if_true, Bool.false_eq_true, if_false]
                obtain h72 : σ 72 = _ := hd 3 (by decide)
                rw [h72]
                clear h72
                clear hd
                go_wp2
                exact ⟨Fr.refl _ _, rfl⟩
              · intro σ w' hR hd
                simp only [fill, Nat.reduceAdd, if_true, Bool.false_eq_true, if_false]
                obtain h73 : σ 73 = _ := hd 4 (by decide)
                rw [h73]
                clear h73
                clear hd
                have hfr := (Fr.drew (Fr.refl SS _)).trans hR
                obtain ⟨k0, k1, k2⟩ := HC.out
                have e1 := hfr.cell k1 HGD.out
                have e2 := hfr.cell k2 HGD.out
                clear k0 k1 k2
                go_wp2
                exact ⟨Fr.refl _ _, rfl⟩
              · intro σ w' hR hd
                simp only [fill, Nat.reduceAdd, if_true, Bool.false_eq_true, if_false]
                clear hd
                go_wp2
                exact ⟨Fr.refl _ _, rfl⟩
              · intro σ w' hR hd
                simp only [fill, Nat.reduceAdd, if_true, Bool.false_eq_true, if_false]
                clear hd
                go_wp2
                exact ⟨Fr.refl _ _, rfl⟩
              · intro σ w' hR hd
                simp only [fill, Nat.reduceAdd, if_true, Bool.false_eq_true, if_false]
                obtain h75 : σ 75 = _ := hd 6 (by decide)
                obtain h76 : σ 76 = _ := hd 7 (by decide)
                rw [h75, h76]
                clear h75 h76
                clear hd
                go_wp2
                exact ⟨Fr.refl _ _, rfl⟩
              · intro σ w' hR hd
                simp only [fill, Nat.reduceAdd, if_true, Bool.false_eq_true, if_false]
                obtain h77 : σ 77 = _ := hd 8 (by decide)
                rw [h77]
                clear h77
                clear hd
                go_wp2
                exact ⟨Fr.refl _ _, rfl⟩
              · intro σ w' hR hd
                simp only [fill, Nat.reduceAdd, if_true, Bool.false_eq_true, if_false]
                obtain h78 : σ 78 = _ := hd 9 (by decide)
                rw [h78]
                clear h78
                clear hd
                have hfr := (Fr.drew (Fr.refl SS _)).trans hR
                obtain ⟨k0, k1, k2⟩ := HC.out
                have e1 := hfr.cell k1 HGD.out
                have e2 := hfr.cell k2 HGD.out
                clear k0 k1 k2
                go_wp2
                exact ⟨Fr.refl _ _, rfl⟩
              · intro σ w' hR hd hH
                simp only [fill, Nat.reduceAdd, if_true, Bool.false_eq_true, if_false]
                obtain h69 : σ 69 = _ := hd 0 (by decide)
                obtain h74 : σ 74 = _ := hd 5 (by decide)
                obtain h79 : σ 79 = _ := hd 10 (by decide)
                rw [h69, h74, h79]
                clear h69 h74 h79
                clear hd
                have hw : (WhAt w' p1 g1 b1 c1 bs1 tu (setX X d.id d.at_)) ∧ (WhAt w' p2 g2 b2 c2 bs2 tu X) := hH
                have HWW := Hd.mk hw
                clear hw hH
                go_wp2_with fail
                refine (set_calls HWW.out.2 HDO.out.1 HDO.out.2 HXL.out).mono ?_
                rintro e w4 ⟨rfl, hW2, hf2⟩
                have HX2 := Hd.mk hW2
                have HF2 := Hd.mk (hf2.mono HS2.out)
                have HO2 := Hd.mk (HWW.out.1.fr hf2 HD1.out)
                clear hW2 hf2
                go_wp2
                exact ⟨HF2.out, rfl, ⟨HO2.out, HX2.out⟩⟩
            · intro σ w3 hR hG hH
              simp only [fill, Nat.reduceAdd, if_true, Bool.false_eq_true, if_false]
              clear hG
              have hfr := HFa.out.trans ((Fr.drew (Fr.refl SS _)).trans hR)
              have hw2 : (WhAt w3 p1 g1 b1 c1 bs1 tu (setX X d.id d.at_)) ∧ (WhAt w3 p2 g2 b2 c2 bs2 tu (setX X d.id d.at_)) := hH
              have HW2 := Hd.mk hw2
              clear hw2 hR hH
              have HF2 := Hd.mk (HF.out.weak hfr (fun x hx => .inr (HGS.out x hx)))
              go_wp2
              go_roundw
              case rel => exact ⟨k + 1, (setX X d.id d.at_), tu, by omega, by omega, by go_num, HW2.out, Nat.le_trans (setX_len _ _ _) (by have := HX.out; omega), HF2.out⟩
              case measure => simp [intOf]; omega
        · have e0 : (d.kind == 0) = false := by rw [beq_eq_false_iff_ne]; exact hk0
          clear hk0
          by_cases hk1 : d.kind = 1
          · have e1 : (d.kind == 1) = true := by simpa using hk1
            clear hk1
            obtain ⟨ia, hia⟩ : ∃ ia, (atI X d.id).isSome = ia := ⟨_, rfl⟩
            have HIA := Hd.mk hia
            clear hia
            go_wp2_with fail
            clear c0
            refine wp_region_gs { R := Fr SS, R1 := Fr [], gs := [Is (.pointer (some ⟨p1, 0, none⟩)), Is (.slice (some ⟨gd, off, none⟩) ds.length cd), Is (.int .i64 k), Is (.pointer (some ⟨gd, off + k * 3, none⟩)), Is (.pointer (some ⟨gd, off + k * 3 + 1, none⟩)), Is (.int .i64 d.id), Is (.bool ia), Is (.pointer (some ⟨p2, 0, none⟩)), Is (.slice (some ⟨gd, off, none⟩) ds.length cd), Is (.int .i64 k), Is (.pointer (some ⟨gd, off + k * 3, none⟩)), Is (.pointer (some ⟨gd, off + k * 3 + 1, none⟩)), Is (.int .i64 d.id), Is (.bool ia), Is (.bool false)], ds := [some 83, some 84, some 85, some 86, some 87, some 88, some 89, some 90, some 91, some 92, some 93, some 94, some 95, some 96, some 97], fl := [false, false, false, false, false, false, true, false, false, false, false, false, false, true, false], hs := [fun _ w2 => (WhAt w2 p1 g1 b1 c1 bs1 tu X) ∧ (WhAt w2 p2 g2 b2 c2 bs2 tu X), fun _ w2 => (WhAt w2 p1 g1 b1 c1 bs1 tu (delI X d.id)) ∧ (WhAt w2 p2 g2 b2 c2 bs2 tu X), fun _ w2 => (WhAt w2 p1 g1 b1 c1 bs1 tu (delI X d.id)) ∧ (WhAt w2 p2 g2 b2 c2 bs2 tu (delI X d.id))], hd := [[], [], []] } [false, false, false, false, false, false, false, false, false, false, false, false, false, false, false, false, false, false, false, false, false, false, false, false, false, false, false, false, false, false, false, false, false, false, false, false, false, false, false, false, false, false, false, false, false, false, false, false, false, false, false, false, false, false, false, false, false, false, false, false, false, false, false, false, false, false, false, false, false, false, false, false, false, false, false, false, false, false, false, false, false, false, false, true, true, true, true, true, true, true, true, true, true, true, true, true, true, true, false, false, false, false, false, false, false, false, false, false, false, false, false, false, false, false, false, false, false, false, false, false, false, false, false, false, false, false] (by kernel_rfl) _ (by kernel_rfl) (by kernel_rfl) (by kernel_rfl) (by kernel_rfl) rfl [] (fun _ _ _ h1 h2 => h1.trans h2) (fun _ _ h => h.mono (by simp)) (staI (staI (staI (staI (staI (staI (staI (staI (staI (staI (staI (staI (staI (staI (staI sta0))))))))))))))) (sth (fun _ _ _ hf h => ⟨h.1.fr0 hf, h.2.fr0 hf⟩) (sth (fun _ _ _ hf h => ⟨h.1.fr0 hf, h.2.fr0 hf⟩) (sth (fun _ _ _ hf h => ⟨h.1.fr0 hf, h.2.fr0 hf⟩) sth0))) (fun _ _ h => h.size) _ (Fr.refl _ _) HDR.out ?_ ?_
            · refine ⟨?_, ?_, ?_, ?_, ?_, ?_, ?_, ?_, ?_, ?_, ?_, ?_, ?_, ?_, ?_, trivial⟩
              · intro σ w' hR hd
                simp only [fill, Nat.reduceAdd, if_true, Bool.false_eq_true, if_false]
                clear hd
                go_wp2
                exact ⟨Fr.refl _ _, rfl⟩
              · intro σ w' hR hd
                simp only [fill, Nat.reduceAdd, if_true, Bool.false_eq_true, if_false]
                clear hd
                go_wp2
                exact ⟨Fr.refl _ _, rfl⟩
              · intro σ w' hR hd
                simp only [fill, Nat.reduceAdd, if_true, Bool.false_eq_true, if_false]
                clear hd
                go_wp2
                exact ⟨Fr.refl _ _, rfl⟩
              · intro σ w' hR hd
                simp only [fill, Nat.reduceAdd, if_true, Bool.false_eq_true, if_false]
                obtain h84 : σ 84 = _ := hd 1 (by decide)
                obtain h85 : σ 85 = _ := hd 2 (by decide)
                rw [h84, h85]
                clear h84 h85
                clear hd
                go_wp2
                exact ⟨Fr.refl _ _, rfl⟩
              · intro σ w' hR hd
                simp only [fill, Nat.reduceAdd, if_true, Bool.false_eq_true, if_false]
                obtain h86 : σ 86 = _ := hd 3 (by decide)
                rw [h86]
                clear h86
                clear hd
                go_wp2
                exact ⟨Fr.refl _ _, rfl⟩
              · intro σ w' hR hd
                simp only [fill, Nat.reduceAdd, if_true, Bool.false_eq_true, if_false]
                obtain h87 : σ 87 = _ := hd 4 (by decide)
                rw [h87]
                clear h87
                clear hd
                have hfr := (Fr.drew (Fr.refl SS _)).trans hR
                obtain ⟨k0, k1, k2⟩ := HC.out
                have e1 := hfr.cell k1 HGD.out
                have e2 := hfr.cell k2 HGD.out
                clear k0 k1 k2
                go_wp2
                exact ⟨Fr.refl _ _, rfl⟩
              · intro σ w' hR hd hH
                simp only [fill, Nat.reduceAdd, if_true, Bool.false_eq_true, if_false]
                obtain h83 : σ 83 = _ := hd 0 (by decide)
                obtain h88 : σ 88 = _ := hd 5 (by decide)
                rw [h83, h88]
                clear h83 h88
                clear hd
                have hw : (WhAt w' p1 g1 b1 c1 bs1 tu X) ∧ (WhAt w' p2 g2 b2 c2 bs2 tu X) := hH
                have HWW := Hd.mk hw
                clear hw hH
                go_wp2_with fail
                refine (del_calls HWW.out.1 HDO.out.1).mono ?_
                rintro e w4 ⟨rfl, hW2, hf2⟩
                have HX2 := Hd.mk hW2
                have HF2 := Hd.mk (hf2.mono HS1.out)
                have HO2 := Hd.mk (HWW.out.2.fr hf2 HD2.out)
                clear hW2 hf2
                rw [HIA.out]
                go_wp2
                exact ⟨HF2.out, rfl, ⟨HX2.out, HO2.out⟩⟩
              · intro σ w' hR hd
                simp only [fill, Nat.reduceAdd, if_true, Bool.false_eq_true, if_false]
                clear hd
                go_wp2
                exact ⟨Fr.refl _ _, rfl⟩
              · intro σ w' hR hd
                simp only [fill, Nat.reduceAdd, if_true, Bool.false_eq_true, if_false]
                clear hd
                go_wp2
                exact ⟨Fr.refl _ _, rfl⟩
              · intro σ w' hR hd
                simp only [fill, Nat.reduceAdd, if_true, Bool.false_eq_true, if_false]
                clear hd
                go_wp2
                exact ⟨Fr.refl _ _, rfl⟩
              · intro σ w' hR hd
                simp only [fill, Nat.reduceAdd, if_true, Bool.false_eq_true, if_false]
                obtain h91 : σ 91 = _ := hd 8 (by decide)
                obtain h92 : σ 92 = _ := hd 9 (by decide)
                rw [h91, h92]
                clear h91 h92
                clear hd
                go_wp2
                exact ⟨Fr.refl _ _, rfl⟩
              · intro σ w' hR hd
                simp only [fill, Nat.reduceAdd, if_true, Bool.false_eq_true, if_false]
                obtain h93 : σ 93 = _ := hd 10 (by decide)
                rw [h93]
                clear h93
                clear hd
                go_wp2
                exact ⟨Fr.refl _ _, rfl⟩
              · intro σ w' hR hd
                simp only [fill, Nat.reduceAdd, if_true, Bool.false_eq_true, if_false]
                obtain h94 : σ 94 = _ := hd 11 (by decide)
                rw [h94]
                clear h94
                clear hd
                have hfr := (Fr.drew (Fr.refl SS _)).trans hR
                obtain ⟨k0, k1, k2⟩ := HC.out
                have e1 := hfr.cell k1 HGD.out
                have e2 := hfr.cell k2 HGD.out
                clear k0 k1 k2
                go_wp2
                exact ⟨Fr.refl _ _, rfl⟩
              · intro σ w' hR hd hH
                simp only [fill, Nat.reduceAdd, if_true, Bool.false_eq_true, if_false]
                obtain h90 : σ 90 = _ := hd 7 (by decide)
                obtain h95 : σ 95 = _ := hd 12 (by decide)
                rw [h90, h95]
                clear h90 h95
                clear hd
                have hw : (WhAt w' p1 g1 b1 c1 bs1 tu (delI X d.id)) ∧ (WhAt w' p2 g2 b2 c2 bs2 tu X) := hH
                have HWW := Hd.mk hw
                clear hw hH
                go_wp2_with fail
                refine (del_calls HWW.out.2 HDO.out.1).mono ?_
                rintro e w4 ⟨rfl, hW2, hf2⟩
                have HX2 := Hd.mk hW2
                have HF2 := Hd.mk (hf2.mono HS2.out)
                have HO2 := Hd.mk (HWW.out.1.fr hf2 HD1.out)
                clear hW2 hf2
                rw [HIA.out]
                go_wp2
                exact ⟨HF2.out, rfl, ⟨HO2.out, HX2.out⟩⟩
              · intro σ w' hR hd
                simp only [fill, Nat.reduceAdd, if_true, Bool.false_eq_true, if_false]
                obtain h89 : σ 89 = _ := hd 6 (by decide)
                obtain h96 : σ 96 = _ := hd 13 (by decide)
                rw [h89, h96]
                clear h89 h96
                clear hd
                go_wp2
                exact ⟨Fr.refl _ _, rfl⟩
            · intro σ w3 hR hG hH
              obtain h97 : σ 97 = _ := hG 14 (by decide)
              simp only [fill, Nat.reduceAdd, if_true, Bool.false_eq_true, if_false, h97]
              clear h97
              clear hG
              have hfr := (Fr.drew (Fr.refl SS _)).trans hR
              have hw2 : (WhAt w3 p1 g1 b1 c1 bs1 tu (delI X d.id)) ∧ (WhAt w3 p2 g2 b2 c2 bs2 tu (delI X d.id)) := hH
              have HW2 := Hd.mk hw2
              clear hw2 hR hH
              have HF2 := Hd.mk (HF.out.weak hfr (fun x hx => .inr (HGS.out x hx)))
              go_wp2
              go_roundw
              case rel => exact ⟨k + 1, (delI X d.id), tu, by omega, by omega, by go_num, HW2.out, Nat.le_trans (List.length_filter_le _ _) (by have := HX.out; omega), HF2.out⟩
              case measure => simp [intOf]; omega
          · have e1 : (d.kind == 1) = false := by rw [beq_eq_false_iff_ne]; exact hk1
            clear hk1
            obtain ⟨L, hL⟩ : ∃ L, (dueP X d.at_).map (·.1) = L := ⟨_, rfl⟩
            have HLO : Hd (∀ {base : Nat} {v : Value} {w5 : World}, w5.ownsRow base 3 1 v (dueP X d.at_).length ((dueP X d.at_).map iv) → wr.heap.size ≤ base → w5.ownsRow wr.heap.size 3 1 v L.length (L.map fun x => .int .i64 x)) := Hd.mk fun h hle => by
              rw [← hL, List.length_map, List.map_map]
              exact own_base h hle
            have HLL : Hd (L.length < 1000000) := Hd.mk (by
              rw [← hL, List.length_map, dueP_len]
              exact Nat.lt_of_le_of_lt (List.length_filter_le _ _) HXL.out)
            have HLS : Hd (∀ x ∈ SS, x < wr.heap.size) := Hd.mk fun x hx => by
              rcases HSL.out x hx with h | h
              · exact HW.out.1.lt x h
              · exact HW.out.2.lt x h
            clear hL
            go_wp2_with fail
            clear c0
            refine wp_region_gs { R := Fr SS, R1 := Fr [], gs := [Is (.pointer (some ⟨p1, 0, none⟩)), Is (.slice (some ⟨gd, off, none⟩) ds.length cd), Is (.int .i64 k), Is (.pointer (some ⟨gd, off + k * 3, none⟩)), Is (.pointer (some ⟨gd, off + k * 3 + 2, none⟩)), Is (.int .u64 d.at_), (fun (v : Value) (w2 : World) => w2.ownsRow wr.heap.size 3 1 v L.length (L.map fun x => .int .i64 x)), Is (.pointer (some ⟨p2, 0, none⟩)), Is (.slice (some ⟨gd, off, none⟩) ds.length cd), Is (.int .i64 k), Is (.pointer (some ⟨gd, off + k * 3, none⟩)), Is (.pointer (some ⟨gd, off + k * 3 + 2, none⟩)), Is (.int .u64 d.at_), (fun (v : Value) (w2 : World) => w2.ownsRow wr.heap.size 3 1 v L.length (L.map fun x => .int .i64 x)), Is (.bool true), Is (.bool false)], ds := [some 39, some 40, some 41, some 42, some 43, some 44, some 45, some 46, some 47, some 48, some 49, some 50, some 51, some 52, some 53, some 54], fl := [false, false, false, false, false, false, true, false, false, false, false, false, false, true, false, false], hs := [fun _ w2 => (WhAt w2 p1 g1 b1 c1 bs1 tu X) ∧ (WhAt w2 p2 g2 b2 c2 bs2 tu X), fun _ w2 => (WhAt w2 p1 g1 b1 c1 bs1 (max tu d.at_) (leftI X d.at_)) ∧ (WhAt w2 p2 g2 b2 c2 bs2 tu X), fun _ w2 => (WhAt w2 p1 g1 b1 c1 bs1 (max tu d.at_) (leftI X d.at_)) ∧ (WhAt w2 p2 g2 b2 c2 bs2 (max tu d.at_) (leftI X d.at_))], hd := [[], [], []] } [false, false, false, false, false, false, false, false, false, false, false, false, false, false, false, false, false, false, false, false, false, false, false, false, false, false, false, false, false, false, false, false, false, false, false, false, false, false, false, true, true, true, true, true, true, true, true, true, true, true, true, true, true, true, true, false, false, false, false, false, false, false, false, false, false, false, false, false, false, false, false, false, false, false, false, false, false, false, false, false, false, false, false, false, false, false, false, false, false, false, false, false, false, false, false, false, false, false, false, false, false, false, false, false, false, false, false, false, false, false, false, false, false, false, false, false, false, false, false, false, false, false, false, false, false, false] (by kernel_rfl) _ (by kernel_rfl) (by kernel_rfl) (by kernel_rfl) (by kernel_rfl) rfl [] (fun _ _ _ h1 h2 => h1.trans h2) (fun _ _ h => h.mono (by simp)) (staI (staI (staI (staI (staI (staI (sta (fun v _ _ hf h => own_fr h hf (fun k hk hx => by have := h.lt k hk; have := HLS.out k hx; omega)) (staI (staI (staI (staI (staI (staI (sta (fun v _ _ hf h => own_fr h hf (fun k hk hx => by have := h.lt k hk; have := HLS.out k hx; omega)) (staI (staI sta0)))))))))))))))) (sth (fun _ _ _ hf h => ⟨h.1.fr0 hf, h.2.fr0 hf⟩) (sth (fun _ _ _ hf h => ⟨h.1.fr0 hf, h.2.fr0 hf⟩) (sth (fun _ _ _ hf h => ⟨h.1.fr0 hf, h.2.fr0 hf⟩) sth0))) (fun _ _ h => h.size) _ (Fr.refl _ _) HDR.out ?_ ?_
            · refine ⟨?_, ?_, ?_, ?_, ?_, ?_, ?_, ?_, ?_, ?_, ?_, ?_, ?_, ?_, ?_, ?_, trivial⟩
              · intro σ w' hR hd
                simp only [fill, Nat.reduceAdd, if_true, Bool.false_eq_true, if_false]
                clear hd
                go_wp2
                exact ⟨Fr.refl _ _, rfl⟩
              · intro σ w' hR hd
                simp only [fill, Nat.reduceAdd, if_true, Bool.false_eq_true, if_false]
                clear hd
                go_wp2
                exact ⟨Fr.refl _ _, rfl⟩
              · intro σ w' hR hd
                simp only [fill, Nat.reduceAdd, if_true, Bool.false_eq_true, if_false]
                clear hd
                go_wp2
                exact ⟨Fr.refl _ _, rfl⟩
              · intro σ w' hR hd
                simp only [fill, Nat.reduceAdd, if_true, Bool.false_eq_true, if_false]
                obtain h40 : σ 40 = _ := hd 1 (by decide)
                obtain h41 : σ 41 = _ := hd 2 (by decide)
                rw [h40, h41]
                clear h40 h41
                clear hd
                go_wp2
                exact ⟨Fr.refl _ _, rfl⟩
              · intro σ w' hR hd
                simp only [fill, Nat.reduceAdd, if_true, Bool.false_eq_true, if_false]
                obtain h42 : σ 42 = _ := hd 3 (by decide)
                rw [h42]
                clear h42
                clear hd
                go_wp2
                exact ⟨Fr.refl _ _, rfl⟩
              · intro σ w' hR hd
                simp only [fill, Nat.reduceAdd, if_true, Bool.false_eq_true, if_false]
                obtain h43 : σ 43 = _ := hd 4 (by decide)
                rw [h43]
                clear h43
                clear hd
                have hfr := (Fr.drew (Fr.refl SS _)).trans hR
                obtain ⟨k0, k1, k2⟩ := HC.out
                have e1 := hfr.cell k1 HGD.out
                have e2 := hfr.cell k2 HGD.out
                clear k0 k1 k2
                go_wp2
                exact ⟨Fr.refl _ _, rfl⟩
              · intro σ w' hR hd hH
                simp only [fill, Nat.reduceAdd, if_true, Bool.false_eq_true, if_false]
                obtain h39 : σ 39 = _ := hd 0 (by decide)
                obtain h44 : σ 44 = _ := hd 5 (by decide)
                rw [h39, h44]
                clear h39 h44
                clear hd
                have hw : (WhAt w' p1 g1 b1 c1 bs1 tu X) ∧ (WhAt w' p2 g2 b2 c2 bs2 tu X) := hH
                have HWW := Hd.mk hw
                clear hw hH
                have hsz9 := hR.size
                go_wp2_with fail
                refine (due_calls HWW.out.1 HXD.out HDO.out.2).mono ?_
                rintro e w4 ⟨v5, rfl, ho5, -, hW2, hf2⟩
                have HX2 := Hd.mk hW2
                have HF2 := Hd.mk (hf2.mono HS1p.out)
                have HO2 := Hd.mk (HWW.out.2.fr hf2 HD2p.out)
                clear hW2 hf2
                go_wp2
                exact ⟨HF2.out, HLO.out ho5 (by first | exact hsz9 | exact Nat.le_trans hsz8 hsz9), ⟨HX2.out, HO2.out⟩⟩
              · intro σ w' hR hd
                simp only [fill, Nat.reduceAdd, if_true, Bool.false_eq_true, if_false]
                clear hd
                go_wp2
                exact ⟨Fr.refl _ _, rfl⟩
              · intro σ w' hR hd
                simp only [fill, Nat.reduceAdd, if_true, Bool.false_eq_true, if_false]
                clear hd
                go_wp2
                exact ⟨Fr.refl _ _, rfl⟩
              · intro σ w' hR hd
                simp only [fill, Nat.reduceAdd, if_true, Bool.false_eq_true, if_false]
                clear hd
                go_wp2
                exact ⟨Fr.refl _ _, rfl⟩
              · intro σ w' hR hd
                simp only [fill, Nat.reduceAdd, if_true, Bool.false_eq_true, if_false]
                obtain h47 : σ 47 = _ := hd 8 (by decide)
                obtain h48 : σ 48 = _ := hd 9 (by decide)
                rw [h47, h48]
                clear h47 h48
                clear hd
                go_wp2
                exact ⟨Fr.refl _ _, rfl⟩
              · intro σ w' hR hd
                simp only [fill, Nat.reduceAdd, if_true, Bool.false_eq_true, if_false]
                obtain h49 : σ 49 = _ := hd 10 (by decide)
                rw [h49]
                clear h49
                clear hd
                go_wp2
                exact ⟨Fr.refl _ _, rfl⟩
              · intro σ w' hR hd
                simp only [fill, Nat.reduceAdd, if_true, Bool.false_eq_true, if_false]
                obtain h50 : σ 50 = _ := hd 11 (by decide)
                rw [h50]
                clear h50
                clear hd
                have hfr := (Fr.drew (Fr.refl SS _)).trans hR
                obtain ⟨k0, k1, k2⟩ := HC.out
                have e1 := hfr.cell k1 HGD.out
                have e2 := hfr.cell k2 HGD.out
                clear k0 k1 k2
                go_wp2
                exact ⟨Fr.refl _ _, rfl⟩
              · intro σ w' hR hd hH
                simp only [fill, Nat.reduceAdd, if_true, Bool.false_eq_true, if_false]
                obtain h46 : σ 46 = _ := hd 7 (by decide)
                obtain h51 : σ 51 = _ := hd 12 (by decide)
                rw [h46, h51]
                clear h46 h51
                clear hd
                have hw : (WhAt w' p1 g1 b1 c1 bs1 (max tu d.at_) (leftI X d.at_)) ∧ (WhAt w' p2 g2 b2 c2 bs2 tu X) := hH
                have HWW := Hd.mk hw
                clear hw hH
                have hsz9 := hR.size
                go_wp2_with fail
                refine (due_calls HWW.out.2 HXD.out HDO.out.2).mono ?_
                rintro e w4 ⟨v5, rfl, ho5, -, hW2, hf2⟩
                have HX2 := Hd.mk hW2
                have HF2 := Hd.mk (hf2.mono HS2p.out)
                have HO2 := Hd.mk (HWW.out.1.fr hf2 HD1p.out)
                clear hW2 hf2
                go_wp2
                exact ⟨HF2.out, HLO.out ho5 (by first | exact hsz9 | exact Nat.le_trans hsz8 hsz9), ⟨HO2.out, HX2.out⟩⟩
              · intro σ w' hR hd
                simp only [fill, Nat.reduceAdd, if_true, Bool.false_eq_true, if_false]
                obtain ho1 : (fun (v : Value) (w2 : World) => w2.ownsRow wr.heap.size 3 1 v L.length (L.map fun x => .int .i64 x)) (σ 45) w' := hd 6 (by decide)
                obtain ho2 : (fun (v : Value) (w2 : World) => w2.ownsRow wr.heap.size 3 1 v L.length (L.map fun x => .int .i64 x)) (σ 52) w' := hd 13 (by decide)
                clear hd
                go_wp2_with fail
                refine (ints_own ho1 ho2 HLL.out HLL.out).mono ?_
                rintro e w4 ⟨rfl, hf4⟩
                rw [decide_eq_true rfl]
                have HF4 := Hd.mk hf4
                clear hf4 ho1 ho2
                go_wp2
                exact ⟨HF4.out, rfl⟩
              · intro σ w' hR hd
                simp only [fill, Nat.reduceAdd, if_true, Bool.false_eq_true, if_false]
                obtain h53 : σ 53 = _ := hd 14 (by decide)
                rw [h53]
                clear h53
                clear hd
                go_wp2
                exact ⟨Fr.refl _ _, rfl⟩
            · intro σ w3 hR hG hH
              obtain h54 : σ 54 = _ := hG 15 (by decide)
              simp only [fill, Nat.reduceAdd, if_true, Bool.false_eq_true, if_false, h54]
              clear h54
              clear hG
              have hfr := (Fr.drew (Fr.refl SS _)).trans hR
              have hw2 : (WhAt w3 p1 g1 b1 c1 bs1 (max tu d.at_) (leftI X d.at_)) ∧ (WhAt w3 p2 g2 b2 c2 bs2 (max tu d.at_) (leftI X d.at_)) := hH
              have HW2 := Hd.mk hw2
              clear hw2 hR hH
              have HF2 := Hd.mk (HF.out.weak hfr (fun x hx => .inr (HGS.out x hx)))
              go_wp2
              go_roundw
              case rel => exact ⟨k + 1, (leftI X d.at_), (max tu d.at_), by omega, by omega, by go_num, HW2.out, Nat.le_trans (List.length_filter_le _ _) (by have := HX.out; omega), HF2.out⟩
              case measure => simp [intOf]; omega
      · go_wp2_with fail
        refine (next_any HW.out.1 HXL.out).mono ?_
        rintro r w5 ⟨rfl, hf5⟩
        unfold nextV
        have HF5 := Hd.mk hf5
        clear hf5
        go_wp2_with fail
        refine (next_any (HW.out.2.fr0 HF5.out) HXL.out).mono ?_
        rintro r w6 ⟨rfl, hf6⟩
        unfold nextV
        have HF6 := Hd.mk (HF5.out.trans hf6)
        clear hf6
        go_wp2_with fail
        refine (len_calls (HW.out.1.fr0 HF6.out)).mono ?_
        rintro r w7 ⟨rfl, rfl⟩
        go_wp2_with fail
        refine (len_calls (HW.out.2.fr0 HF6.out)).mono ?_
        rintro r w8 ⟨rfl, rfl⟩
        go_wp2
        go_ret
        exact ⟨rfl, HF.out.trans HF6.out⟩
    · go_wp2_with fail
      refine (next_any HW.out.1 HXL.out).mono ?_
      rintro r w5 ⟨rfl, hf5⟩
      unfold nextV
      have HF5 := Hd.mk hf5
      clear hf5
      go_wp2_with fail
      refine (next_any (HW.out.2.fr0 HF5.out) HXL.out).mono ?_
      rintro r w6 ⟨rfl, hf6⟩
      unfold nextV
      have HF6 := Hd.mk (HF5.out.trans hf6)
      clear hf6
      go_wp2_with fail
      refine (len_calls (HW.out.1.fr0 HF6.out)).mono ?_
      rintro r w7 ⟨rfl, rfl⟩
      go_wp2_with fail
      refine (len_calls (HW.out.2.fr0 HF6.out)).mono ?_
      rintro r w8 ⟨rfl, rfl⟩
      go_wp2
      go_ret
      exact ⟨rfl, HF.out.trans HF6.out⟩
end Go.Proofs.Ythnbdpcbagobhaa
