import Derived.Test.YtbmejolmbfmdiaaH15
namespace Go.Proofs.Ytbmejolmbfmdiaa
open Go Go.RowKit Go.Lib Go.Proofs.MapL

def cI (i : Int) : List Value := [.int .i64 i]
theorem cI_at {w : World} {A : Option Addr} {n : Nat} {xs : List Int} (h : SlIs cI 1 w A n xs) {k : Nat} (hk : k < xs.length) : ∃ b off, A = some ⟨b, off, none⟩ ∧ b < w.heap.size ∧ ∀ j (hj : j < xs.length), w.cell? ⟨b, off + j, none⟩ = some (.int .i64 xs[j]) := by
  obtain ⟨b, off, e, hb, hc⟩ := h.row (by omega)
  refine ⟨b, off, e, hb, fun j hj => ?_⟩
  have := hc j hj 0 _ rfl
  simpa using this
theorem cI_own {w : World} {base : Nat} {v : Value} {xs : List Int} (h : w.ownsRow base 3 1 v xs.length (xs.map (Value.int .i64))) (hl : xs.length ≤ 1000000) : ∃ A c, v = .slice A xs.length c ∧ SlIs cI 1 w A xs.length xs ∧ (∀ k, v.ownBlock = some k → base ≤ k ∧ k < w.heap.size) ∧ xs.length ≤ c := by
  have hlt := h.lt
  rcases h.2 with ⟨rfl, hn⟩ | ⟨g, cap, cur, rfl, hbg, hgg, hnc, -⟩
  · have : xs = [] := List.eq_nil_of_length_eq_zero hn
    subst this
    exact ⟨none, 0, rfl, ⟨rfl, by simp, fun h => absurd h (by simp)⟩, hlt, Nat.le_refl _⟩
  · refine ⟨some ⟨g, 0, none⟩, cap, rfl, ⟨rfl, by omega, fun _ => ⟨g, 0, rfl, (hlt g rfl).2, ?_⟩⟩, hlt, hnc⟩
    intro i hi j u hu
    have hj : j = 0 := by have := (List.getElem?_eq_some_iff.1 hu).1; simp [cI] at this; omega
    subst hj
    have h2 := h.cellAt i (by omega)
    rw [List.getElem?_map, List.getElem?_eq_getElem hi] at h2
    have hu2 : u = .int .i64 xs[i] := by simpa [cI] using hu.symm
    rw [hu2, show 0 + i * 1 + 0 = i by omega]
    exact h2
set_option maxRecDepth 100000 in
set_option maxHeartbeats 8000000 in
theorem ints_calls {w : World} {A1 A2 : Option Addr} {n1 n2 c1 c2 : Nat} {xs ys : List Int} (h1 : SlIs cI 1 w A1 n1 xs) (h2 : SlIs cI 1 w A2 n2 ys) (hl : xs.length ≤ 1000000) : Calls Try.prog 8 #[.slice A1 n1 c1, .slice A2 n2 c2] w fun r w' => r = .returned (.bool (decide (xs = ys))) ∧ Fr [] w w' := by
  have e1 := h1.n
  have e2 := h2.n
  subst e1
  have H1 := Hd.mk h1
  have H2 := Hd.mk h2
  have HL := Hd.mk hl
  have hlI : (xs.length : Int) ≤ 9223372036854775807 := by omega
  clear h1 h2 hl
  by_cases hn : n2 = xs.length
  · subst hn
    have HEN := Hd.mk e2
    clear e2
    have hq : ((xs.length : Int) != (xs.length : Int)) = false := by simp
    go_enter Try.func8, Try.ntmps8
    go_wp2_with fail
    go_loopg [5] xs.length (fun g v wr => ∃ k : Nat, k ≤ xs.length ∧ xs.length - k ≤ g ∧ v = .int .i64 (k : Nat) ∧ Hd (xs.take k = ys.take k) ∧ Hd (Fr [] w wr))
    case atStart => exact ⟨0, Nat.zero_le _, by omega, rfl, ⟨rfl⟩, ⟨Fr.refl _ _⟩⟩
    case round =>
      obtain ⟨k, hk, hg, rfl, HEQ, HFR0⟩ := hrel
      by_cases hlt : k < xs.length
      · have hltI : (k : Int) < (xs.length : Int) := by omega
        have hly : k < ys.length := by rw [← HEN.out]; exact hlt
        obtain ⟨b1, o1, rfl, hb1, hc1⟩ := cI_at H1.out hlt
        obtain ⟨b2, o2, rfl, hb2, hc2⟩ := cI_at H2.out hly
        obtain ⟨x, hx⟩ : ∃ x, xs[k] = x := ⟨_, rfl⟩
        obtain ⟨y, hy⟩ : ∃ y, ys[k] = y := ⟨_, rfl⟩
        have HFR := Hd.mk HFR0.out.drew
        have HX : Hd (wr.drew.cell? ⟨b1, o1 + k, none⟩ = some (.int .i64 x)) := Hd.mk (HFR.out.cell (by rw [← hx]; exact hc1 k hlt) (by simp))
        have HY : Hd (wr.drew.cell? ⟨b2, o2 + k, none⟩ = some (.int .i64 y)) := Hd.mk (HFR.out.cell (by rw [← hy]; exact hc2 k hly) (by simp))
        have HXY := Hd.mk (And.intro hx hy)
        have HK := Hd.mk hltI
        clear hb1 hb2 hc1 hc2 hx hy
        by_cases hxy : x = y
        · have HNE : Hd ((x != y) = false) := Hd.mk (by rw [hxy]; simp)
          have HGO : Hd (xs.take (k + 1) = ys.take (k + 1)) := Hd.mk (by rw [List.take_succ_eq_append_getElem hlt, List.take_succ_eq_append_getElem hly, HEQ.out, HXY.out.1, HXY.out.2, hxy])
          clear hxy
          go_wp2_with fail
          refine wp_region_gs { R := Fr [], R1 := Fr [], gs := [Is (.slice (some ⟨b1, o1, none⟩) xs.length c1), Is (.int .i64 k), Is (.pointer (some ⟨b1, o1 + k, none⟩)), Is (.int .i64 x), Is (.slice (some ⟨b2, o2, none⟩) xs.length c2), Is (.int .i64 k), Is (.pointer (some ⟨b2, o2 + k, none⟩)), Is (.int .i64 y), Is (.bool false)], ds := [some 17, some 18, some 19, some 20, some 21, some 22, some 23, some 24, some 25], fl := [false, false, false, false, false, false, false, false, false], hs := [], hd := [] } [false, false, false, false, false, false, false, false, false, false, false, false, false, false, false, false, false, true, true, true, true, true, true, true, true, true] (by kernel_rfl) _ (by kernel_rfl) (by kernel_rfl) (by kernel_rfl) (by kernel_rfl) rfl [] (fun _ _ _ h1 h2 => h1.trans h2) (fun _ _ h => h) (staI (staI (staI (staI (staI (staI (staI (staI (staI sta0))))))))) sth0 (fun _ _ h => h.size) _ (Fr.refl _ _) trivial ?_ ?_
          · refine ⟨?_, ?_, ?_, ?_, ?_, ?_, ?_, ?_, ?_, trivial⟩
            · intro σ w' hR hd
              simp only [fill, Nat.reduceAdd, if_true, Bool.false_eq_true, if_false]
              clear hd
              go_wp2
              exact ⟨Fr.refl _ _, rfl⟩
            · intro σ w' hR hd
              simp only [fill, Nat.reduceAdd, if_true, Bool.false_eq_true, if_false]
              clear hd
              go_wp2
              exact ⟨Fr.refl _ _, rfl⟩
            · intro σ w' hR hd
              simp only [fill, Nat.reduceAdd, if_true, Bool.false_eq_true, if_false]
              obtain h17 : σ 17 = _ := hd 0 (by decide)
              obtain h18 : σ 18 = _ := hd 1 (by decide)
              rw [h17, h18]
              clear h17 h18
              clear hd
              have hk := HK.out
              go_wp2
              exact ⟨Fr.refl _ _, rfl⟩
            · intro σ w' hR hd
              simp only [fill, Nat.reduceAdd, if_true, Bool.false_eq_true, if_false]
              obtain h19 : σ 19 = _ := hd 2 (by decide)
              rw [h19]
              clear h19
              clear hd
              have d0 : w'.cell? ⟨b1, o1 + k, none⟩ = some (.int .i64 x) := hR.cell HX.out (by simp)
              go_wp2
              exact ⟨Fr.refl _ _, rfl⟩
            · intro σ w' hR hd
              simp only [fill, Nat.reduceAdd, if_true, Bool.false_eq_true, if_false]
              clear hd
              go_wp2
              exact ⟨Fr.refl _ _, rfl⟩
            · intro σ w' hR hd
              simp only [fill, Nat.reduceAdd, if_true, Bool.false_eq_true, if_false]
              clear hd
              go_wp2
              exact ⟨Fr.refl _ _, rfl⟩
            · intro σ w' hR hd
              simp only [fill, Nat.reduceAdd, if_true, Bool.false_eq_true, if_false]
              obtain h21 : σ 21 = _ := hd 4 (by decide)
              obtain h22 : σ 22 = _ := hd 5 (by decide)
              rw [h21, h22]
              clear h21 h22
              clear hd
              have hk := HK.out
              go_wp2
              exact ⟨Fr.refl _ _, rfl⟩
            · intro σ w' hR hd
              simp only [fill, Nat.reduceAdd, if_true, Bool.false_eq_true, if_false]
              obtain h23 : σ 23 = _ := hd 6 (by decide)
              rw [h23]
              clear h23
              clear hd
              have d0 : w'.cell? ⟨b2, o2 + k, none⟩ = some (.int .i64 y) := hR.cell HY.out (by simp)
              go_wp2
              exact ⟨Fr.refl _ _, rfl⟩
            · intro σ w' hR hd
              simp only [fill, Nat.reduceAdd, if_true, Bool.false_eq_true, if_false]
              obtain h20 : σ 20 = _ := hd 3 (by decide)
              obtain h24 : σ 24 = _ := hd 7 (by decide)
              rw [h20, h24]
              clear h20 h24
              clear hd
              go_wp2
              exact ⟨Fr.refl _ _, by show Value.bool (x != y) = _; rw [HNE.out]⟩
          · intro σ w3 hR hG hH
            obtain h25 : σ 25 = _ := hG 8 (by decide)
            simp only [fill, Nat.reduceAdd, if_true, Bool.false_eq_true, if_false, h25]
            clear h25
            clear hG
            have HF := Hd.mk (HFR.out.trans hR)
            clear hR
            go_wp2
            go_roundg (xs.length - (k + 1))
            case measure => omega
            case rel => exact ⟨k + 1, by omega, by omega, by go_num, HGO, HF⟩
        · have HNE : Hd ((x != y) = true) := Hd.mk (by simpa using hxy)
          have HGO : Hd (decide (xs = ys) = false) := Hd.mk (decide_eq_false (fun e => hxy (by rw [← HXY.out.1, ← HXY.out.2]; simp only [e])))
          clear hxy
          go_wp2_with fail
          refine wp_region_gs { R := Fr [], R1 := Fr [], gs := [Is (.slice (some ⟨b1, o1, none⟩) xs.length c1), Is (.int .i64 k), Is (.pointer (some ⟨b1, o1 + k, none⟩)), Is (.int .i64 x), Is (.slice (some ⟨b2, o2, none⟩) xs.length c2), Is (.int .i64 k), Is (.pointer (some ⟨b2, o2 + k, none⟩)), Is (.int .i64 y), Is (.bool true)], ds := [some 17, some 18, some 19, some 20, some 21, some 22, some 23, some 24, some 25], fl := [false, false, false, false, false, false, false, false, false], hs := [], hd := [] } [false, false, false, false, false, false, false, false, false, false, false, false, false, false, false, false, false, true, true, true, true, true, true, true, true, true] (by kernel_rfl) _ (by kernel_rfl) (by kernel_rfl) (by kernel_rfl) (by kernel_rfl) rfl [] (fun _ _ _ h1 h2 => h1.trans h2) (fun _ _ h => h) (staI (staI (staI (staI (staI (staI (staI (staI (staI sta0))))))))) sth0 (fun _ _ h => h.size) _ (Fr.refl _ _) trivial ?_ ?_
          · refine ⟨?_, ?_, ?_, ?_, ?_, ?_, ?_, ?_, ?_, trivial⟩
            · intro σ w' hR hd
              simp only [fill, Nat.reduceAdd, if_true, Bool.false_eq_true, if_false]
              clear hd
              go_wp2
              exact ⟨Fr.refl _ _, rfl⟩
            · intro σ w' hR hd
              simp only [fill, Nat.reduceAdd, if_true, Bool.false_eq_true, if_false]
              clear hd
              go_wp2
              exact ⟨Fr.refl _ _, rfl⟩
            · intro σ w' hR hd
              simp only [fill, Nat.reduceAdd, if_true, Bool.false_eq_true, if_false]
              obtain h17 : σ 17 = _ := hd 0 (by decide)
              obtain h18 : σ 18 = _ := hd 1 (by decide)
              rw [h17, h18]
              clear h17 h18
              clear hd
              have hk := HK.out
              go_wp2
              exact ⟨Fr.refl _ _, rfl⟩
            · intro σ w' hR hd
              simp only [fill, Nat.reduceAdd, if_true, Bool.false_eq_true, if_false]
              obtain h19 : σ 19 = _ := hd 2 (by decide)
              rw [h19]
              clear h19
              clear hd
              have d0 : w'.cell? ⟨b1, o1 + k, none⟩ = some (.int .i64 x) := hR.cell HX.out (by simp)
              go_wp2
              exact ⟨Fr.refl _ _, rfl⟩
            · intro σ w' hR hd
              simp only [fill, Nat.reduceAdd, if_true, Bool.false_eq_true, if_false]
              clear hd
              go_wp2
              exact ⟨Fr.refl _ _, rfl⟩
            · intro σ w' hR hd
              simp only [fill, Nat.reduceAdd, if_true, Bool.false_eq_true, if_false]
              clear hd
              go_wp2
              exact ⟨Fr.refl _ _, rfl⟩
            · intro σ w' hR hd
              simp only [fill, Nat.reduceAdd, if_true, Bool.false_eq_true, if_false]
              obtain h21 : σ 21 = _ := hd 4 (by decide)
              obtain h22 : σ 22 = _ := hd 5 (by decide)
              rw [h21, h22]
              clear h21 h22
              clear hd
              have hk := HK.out
              go_wp2
              exact ⟨Fr.refl _ _, rfl⟩
            · intro σ w' hR hd
              simp only [fill, Nat.reduceAdd, if_true, Bool.false_eq_true, if_false]
              obtain h23 : σ 23 = _ := hd 6 (by decide)
              rw [h23]
              clear h23
              clear hd
              have d0 : w'.cell? ⟨b2, o2 + k, none⟩ = some (.int .i64 y) := hR.cell HY.out (by simp)
              go_wp2
              exact ⟨Fr.refl _ _, rfl⟩
            · intro σ w' hR hd
              simp only [fill, Nat.reduceAdd, if_true, Bool.false_eq_true, if_false]
              obtain h20 : σ 20 = _ := hd 3 (by decide)
              obtain h24 : σ 24 = _ := hd 7 (by decide)
              rw [h20, h24]
              clear h20 h24
              clear hd
              go_wp2
              exact ⟨Fr.refl _ _, by show Value.bool (x != y) = _; rw [HNE.out]⟩
          · intro σ w3 hR hG hH
            obtain h25 : σ 25 = _ := hG 8 (by decide)
            simp only [fill, Nat.reduceAdd, if_true, Bool.false_eq_true, if_false, h25]
            clear h25
            clear hG
            have HF := Hd.mk (HFR.out.trans hR)
            clear hR
            go_wp2
            go_ret
            exact ⟨by rw [HGO.out]; rfl, HF.out⟩
      · have : k = xs.length := by omega
        subst this
        have HGO : Hd (decide (xs = ys) = true) := Hd.mk (decide_eq_true (by have := HEQ.out; rw [List.take_length, HEN.out, List.take_length] at this; exact this))
        clear H1 H2
        go_wp2
        go_ret
        exact ⟨by rw [HGO.out]; rfl, HFR0.out⟩
  · have HGO : Hd (decide (xs = ys) = false) := Hd.mk (decide_eq_false (fun e => hn (by rw [e2, e])))
    have hq : ((xs.length : Int) != (n2 : Int)) = true := by simp; omega
    clear hn e2
    go_enter Try.func8, Try.ntmps8
    go_wp2
    go_ret
    exact ⟨by rw [HGO.out]; rfl, Fr.refl _ _⟩
end Go.Proofs.Ytbmejolmbfmdiaa
