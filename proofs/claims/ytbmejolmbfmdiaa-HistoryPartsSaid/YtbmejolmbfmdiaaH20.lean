import Derived.Test.YtbmejolmbfmdiaaH19
namespace Go.Proofs.Ytbmejolmbfmdiaa
open Go Go.RowKit Go.Lib Go.Proofs.MapL

theorem fill_all : ∀ (l : List Value) (k : Nat) (a : Array Value), a.size = k + l.length → List.foldl (fun (cs : Array Value) (x : Value × Nat) => cs.setIfInBounds x.snd x.fst) a (l.zipIdx k) = (a.toList.take k ++ l).toArray
  | [], k, a, h => by
    simp at h
    rw [List.append_nil, ← h, ← Array.length_toList, List.take_length]
    rfl
  | y :: l, k, a, h => by
    rw [List.zipIdx_cons, List.foldl_cons, fill_all l (k + 1) _ (by simp at h ⊢; omega)]
    have hk : k < a.toList.length := by simp at h ⊢; omega
    rw [Array.toList_setIfInBounds, List.take_succ_eq_append_getElem (by simpa using hk), List.getElem_set_self, List.take_set_of_le (by omega)]
    simp
/-- A made event, in a slice of one. -/
theorem fill_ev (x : Ev) : List.foldl (fun (cs : Array Value) (x : Value × Nat) => cs.setIfInBounds x.snd x.fst) #[.int .i64 0, .string ⟨#[]⟩, .int .u16 0, .int .u16 0, .slice none 0 0, .int .i64 0, .int .i64 0, .int .u64 0, .int .u64 0, .int .i64 0, .string ⟨#[]⟩, .int .u16 0, .int .u16 0, .slice none 0 0, .int .i64 0, .int .i64 0, .int .u64 0, .bool false, .int .i64 0, .slice none 0 0] (evC x).zipIdx = (evC x).toArray := by
  rw [fill_all (evC x) 0 _ rfl]; simp
theorem ev_v (x : Ev) : x.v = .agg (evC x).toArray := rfl
theorem OwnE.fr {w w' : World} {base : Nat} {v : Value} {l : List Ev} (h : OwnE w base v l) (hf : Fr [] w w') : OwnE w' base v l := own_fr h hf (by simp)
theorem OwnI.fr {w w' : World} {base : Nat} {v : Value} {l : List Int} (h : OwnI w base v l) (hf : Fr [] w w') : OwnI w' base v l := own_fr h hf (by simp)
theorem OwnE.snoc {w : World} {base : Nat} {v : Value} {l : List Ev} {x : Ev} {n : Nat} (hn : l.length = n) (h : w.ownsRow base 38 20 v (n + 1) (l.flatMap evC ++ evC x)) : OwnE w base v (l ++ [x]) := by
  unfold OwnE
  rw [List.flatMap_append, List.length_append, hn]
  simpa using h
theorem OwnI.snoc {w : World} {base : Nat} {v : Value} {l : List Int} {x : Int} {n : Nat} (hn : l.length = n) (h : w.ownsRow base 3 1 v (n + 1) (l.map (Value.int .i64) ++ [.int .i64 x])) : OwnI w base v (l ++ [x]) := by
  unfold OwnI
  rw [List.map_append, List.length_append, hn]
  simpa using h
theorem ownE_nil (w : World) (base : Nat) : OwnE w base (.slice none 0 0) [] := World.ownsRow_nil _ _ _ _
theorem ownI_nil (w : World) (base : Nat) : OwnI w base (.slice none 0 0) [] := World.ownsRow_nil _ _ _ _
attribute [local go_sem] evC_len fill_size0 fill_ev
set_option maxRecDepth 100000 in
set_option maxHeartbeats 8000000 in
theorem begins_calls {w0 : World} {xs : List Ev} {A : Option Addr} {c : Nat} (hs : SlIs evC 20 w0 A xs.length xs) (hx : ∀ x ∈ xs, EvOK w0 x ∧ shI x) {cut : Nat} (hcut : cut < 256) : Calls Try.prog 4 #[.slice A xs.length c, .int .u8 cut] w0 fun r w' => r = .returned (.bool true) ∧ Fr [] w0 w' := by
  have HS := Hd.mk hs
  have HX := Hd.mk hx
  have HCUT := Hd.mk hcut
  have hlenI : (xs.length : Int) ≤ 9223372036854775807 := by have := hs.le; omega
  clear hs hx hcut
  go_enter Try.func4, Try.ntmps4
  go_wp2_with fail
  refine (shown_calls _).mono ?_
  rintro r w1 ⟨rfl, hf1⟩
  have HF1 := Hd.mk hf1
  clear hf1
  by_cases h100 : (100 : Int) < (xs.length : Int)
  · go_wp2
    go_ret
    exact ⟨rfl, HF1.out⟩
  · go_wp2_with fail
    have HLE : Hd (xs.length ≤ 100) := Hd.mk (by omega)
    clear h100
    obtain ⟨base, hbase⟩ : ∃ b, w1.heap.size = b := ⟨_, rfl⟩
    have HBA := Hd.mk hbase
    clear hbase
    go_loopg [6, 7] xs.length (fun g v6 v7 wr => ∃ i : Nat, i ≤ xs.length ∧ xs.length - i ≤ g ∧ v7 = .int .i64 (i : Nat) ∧ Hd (OwnE wr base v6 (xs.take i)) ∧ Hd (Fr [] w1 wr))
    case atStart => exact ⟨0, Nat.zero_le _, by omega, rfl, ⟨ownE_nil _ _⟩, ⟨Fr.refl _ _⟩⟩
    case round =>
      obtain ⟨i, hi, hg, rfl, HO, HFR⟩ := hrel
      by_cases hlt : i < xs.length
      · obtain ⟨b, off, rfl, hb, hc⟩ := HS.out.row (by omega)
        obtain ⟨x, hxk⟩ : ∃ x, xs[i] = x := ⟨_, rfl⟩
        have HXK := Hd.mk hxk
        have HFW := Hd.mk (HF1.out.trans HFR.out)
        obtain ⟨cv, hcv⟩ : ∃ c, (evC x).toArray = c := ⟨_, rfl⟩
        have HCV := Hd.mk hcv
        have HXV : Hd (Value.agg cv = x.v) := Hd.mk (by rw [← hcv]; rfl)
        have HROW : Hd (∀ j u, (evC x)[j]? = some u → wr.cell? ⟨b, off + i * 20 + j, none⟩ = some u) := Hd.mk (fun j u hj => HFW.out.cell (hc i hlt j u (by rw [hxk]; exact hj)) (by simp))
        have hltI : (i : Int) < (xs.length : Int) := by omega
        clear hb hc hxk hcv
        have htl : (xs.take i).length = i := by rw [List.length_take]; omega
        obtain ⟨A6, c6, rfl, hc6, hs6, hb6⟩ := HO.out.sl (by omega)
        go_wp2_with (refine wpList_loadA rfl rfl (Try.isAgg42 _) (Try.sizeOf42 _) (row_load HROW.out (n := 20) rfl HCV.out) rfl ?_)
        rw [HXV.out]
        refine (made_calls x _).mono ?_
        rintro r w3 ⟨rfl, hf3⟩
        rw [ev_v x]
        have hO3 := HO.out.fr hf3
        unfold OwnE at hO3
        rw [htl] at hO3
        have hbz : base ≤ w3.heap.size := by have h1 := HFR.out.size; have h2 := hf3.size; have h3 := HBA.out; omega
        have hi100 : i ≤ 100 := by have := HLE.out; omega
        go_wp2_with (refine wpList_app1s elE rfl _ _ rfl hO3 rfl (evC x) rfl (evC_len x) (evC_cell x) (by omega) (by omega) hbz ?_; intro g' c' w4 hown' hfr hg1 hg2 hg3)
        have hT : xs.take (i + 1) = xs.take i ++ [x] := by rw [List.take_succ_eq_append_getElem hlt, HXK.out]
        have HN : Hd (OwnE w4 base (.slice (some ⟨g', 0, none⟩) (i + 1) c') (xs.take (i + 1))) := Hd.mk (by rw [hT]; exact OwnE.snoc htl hown')
        have HNF : Hd (Fr [] w1 w4) := Hd.mk ((HFR.out.trans hf3).weak hfr (fun k hk => .inr (by have := (hb6 k (by rw [htl]; simpa using hk)).1; have := HBA.out; omega)))
        go_roundg (xs.length - (i + 1))
        case measure => omega
        case rel => exact ⟨i + 1, by omega, by omega, by go_num, HN, HNF⟩
      · have : i = xs.length := by omega
        subst this
        have HO' := HO.out
        rw [List.take_length] at HO'
        obtain ⟨A6, c6, rfl, hc6, hs6, hb6⟩ := HO'.sl (by have := HLE.out; omega)
        have HC6 := Hd.mk hc6
        have HS6 := Hd.mk hs6
        have HFW := Hd.mk (HF1.out.trans HFR.out)
        have HXW := HX
        clear hc6 hs6 hb6 HO HO' HFR HS HX
        obtain ⟨n, hn⟩ : ∃ n, xs.length = n := ⟨_, rfl⟩
        have HN := Hd.mk hn
        rw [hn] at HS6 HLE hlenI ⊢
        go_upto_region 10 with (fail)
        have hkk : (wrap64 (cut : Int)).tmod ((n : Int) + 1) = ((cut % (n + 1) : Nat) : Int) := by
          have h1 := HCUT.out
          rw [show wrap64 (cut : Int) = (cut : Int) by unfold wrap64; omega]
          rw [Int.tmod_eq_emod_of_nonneg (by omega)]
          exact_mod_cast rfl
        rw [hkk]
        obtain ⟨k, hk⟩ : ∃ k, cut % (n + 1) = k := ⟨_, rfl⟩
        have hkn : k ≤ n := by rw [← hk]; have := Nat.mod_lt cut (show 0 < n + 1 by omega); omega
        rw [hk]
        have HKN := Hd.mk hkn
        clear hkk hk hkn
        have HKX : Hd (k ≤ xs.length) := Hd.mk (by rw [HN.out]; exact HKN.out)
        have HTL : Hd ((xs.take k).length = k) := Hd.mk (by rw [List.length_take]; have := HKX.out; omega)
        obtain ⟨W, hW⟩ : ∃ W, wrongL (rho w0) 3 3 st0 0 xs = W := ⟨_, rfl⟩
        obtain ⟨V, hV⟩ : ∃ V, wrongL (rho w0) 3 3 st0 0 (xs.take k) = V := ⟨_, rfl⟩
        obtain ⟨R, hWR, hVk, hRk⟩ := begin_law (rho w0) 3 3 xs k HKX.out
        rw [hW, hV] at hWR
        rw [hV] at hVk
        have HWR := Hd.mk hWR
        have HVK := Hd.mk hVk
        have HRK := Hd.mk hRk
        have HWL : Hd (W.length ≤ 100) := Hd.mk (by rw [← hW]; have := wrongL_len (rho w0) 3 3 xs st0 0; have := HLE.out; have := HN.out; omega)
        have HW := Hd.mk hW
        have HV := Hd.mk hV
        clear hW hV hWR hVk hRk
        have HSK : Hd (SlIs evC 20 wr A6 k (xs.take k)) := Hd.mk (SlIs.take (by rw [HN.out]; exact HS6.out) HKX.out)
        have HTX : Hd (∀ x ∈ xs.take k, EvOK w0 x ∧ shI x) := Hd.mk (fun x hx => HXW.out x (List.mem_of_mem_take hx))
        go_wp2_with fail
        have hw1 := wrong_calls (A := A6) (c := c6) HFW.out 3 3 (by omega) (xs := xs) (by have := HLE.out; have := HN.out; omega) (by rw [HN.out]; exact HS6.out) HXW.out
        rw [HN.out, HW.out] at hw1
        refine hw1.mono ?_
        clear hw1
        rintro r w2 ⟨v, rfl, hrow, hf2⟩
        obtain ⟨B, cb, rfl, hsW, -, hcb⟩ := cI_own hrow (by have := HWL.out; omega)
        have HCB := Hd.mk hcb
        clear hcb
        have HSW := Hd.mk hsW
        have HF2 := Hd.mk (HFW.out.trans hf2)
        have HFR2 := Hd.mk hf2
        have hck : (k : Int) ≤ (c6 : Int) := by have := HC6.out; have := HKN.out; have := HN.out; omega
        clear hrow hsW hf2
        go_wp2_with fail
        have hw1 := wrong_calls (A := A6) (c := c6) HF2.out 3 3 (by omega) (xs := xs.take k) (by have := HTL.out; have := HLE.out; have := HKN.out; omega) (by rw [HTL.out]; exact HSK.out.fr HFR2.out) HTX.out
        rw [HTL.out, HV.out] at hw1
        refine hw1.mono ?_
        clear hw1 hck
        rintro r w3 ⟨v, rfl, hrow, hf3⟩
        have HVL : Hd (V.length ≤ W.length) := Hd.mk (by rw [HWR.out, List.length_append]; omega)
        obtain ⟨B3, cb3, rfl, hsV, -⟩ := cI_own hrow (by have := HWL.out; have := HVL.out; omega)
        have HSV := Hd.mk hsV
        have HF3 := Hd.mk (HF2.out.trans hf3)
        have HSW3 := Hd.mk (HSW.out.fr hf3)
        have HFR3 := Hd.mk (HFR2.out.trans hf3)
        have hWLI : (W.length : Int) ≤ 9223372036854775807 := by have := HWL.out; omega
        clear hrow hsV hf3
        go_wp2_with fail
        go_loopg [11] V.length (fun g v wr4 => ∃ j : Nat, j ≤ V.length ∧ V.length - j ≤ g ∧ v = .int .i64 (j : Nat) ∧ Hd (Fr [] w3 wr4))
        case atStart => exact ⟨0, Nat.zero_le _, by omega, rfl, ⟨Fr.refl _ _⟩⟩
        case round =>
          obtain ⟨j, hj, hg, rfl, HFJ⟩ := hrel
          by_cases hjl : j < V.length
          · have hjw : j < W.length := by have := HVL.out; omega
            have hjwI : (j : Int) < (W.length : Int) := by omega
            obtain ⟨b, off, rfl, hb, hc⟩ := cI_at HSW3.out hjw
            obtain ⟨y, hy⟩ : ∃ y, W[j] = y := ⟨_, rfl⟩
            have hyk : y < (k : Int) := by
              have e : W[j]? = V[j]? := by rw [HWR.out, List.getElem?_append_left hjl]
              rw [List.getElem?_eq_getElem hjw, List.getElem?_eq_getElem hjl] at e
              rw [← hy, Option.some.inj e]
              exact HVK.out _ (List.getElem_mem hjl)
            have d0 := HFJ.out.cell (hc j hjw) (by simp)
            rw [hy] at d0
            clear hc hb hy
            go_wp2
            go_roundg (V.length - (j + 1))
            case measure => omega
            case rel => exact ⟨j + 1, by omega, by omega, by go_num, HFJ⟩
          · have hje : j = V.length := by omega
            subst hje
            have hvcI : (V.length : Int) ≤ (cb : Int) := by have := HVL.out; have := HCB.out; omega
            have hvl := HVL.out
            by_cases hE : V.length = W.length
            · have hEI : ¬ (V.length : Int) < (W.length : Int) := by omega
              clear hE hvl
              go_wp2_with fail
              refine (ints_calls (xs := W.take V.length) (ys := V) (SlIs.take (HSW3.out.fr HFJ.out) HVL.out) (HSV.out.fr HFJ.out) (by rw [List.length_take]; have := HWL.out; omega)).mono ?_
              rintro r w5 ⟨rfl, hf5⟩
              rw [show decide (W.take V.length = V) = true from decide_eq_true (by rw [HWR.out, List.take_left'] <;> rfl)]
              have HF5 := Hd.mk (HF3.out.trans (HFJ.out.trans hf5))
              have HG5 := Hd.mk (HFR3.out.trans (HFJ.out.trans hf5))
              clear hf5
              go_wp2_with fail
              have hr1 := rightA_calls (A := A6) (c := c6) HF5.out 3 3 (by omega) (xs := xs) (by have := HLE.out; have := HN.out; omega) (by rw [HN.out]; exact HS6.out.fr HG5.out) HXW.out
              rw [HN.out, HW.out] at hr1
              refine hr1.mono ?_
              clear hr1
              rintro r w6 ⟨rfl, hf6⟩
              have HF6 := Hd.mk (HF5.out.trans hf6)
              have HG6 := Hd.mk (HG5.out.trans hf6)
              clear hf6
              cases hWe : W.isEmpty with
              | false =>
                clear hWe
                go_wp2
                go_ret
                exact ⟨rfl, HF6.out⟩
              | true =>
                have hVe : V.isEmpty = true := by
                  have h1 := HVL.out
                  rw [List.isEmpty_iff] at hWe ⊢
                  rw [hWe] at h1
                  exact List.eq_nil_of_length_eq_zero (by simpa using h1)
                clear hWe
                have hck : (k : Int) ≤ (c6 : Int) := by have := HC6.out; have := HKN.out; have := HN.out; omega
                go_wp2_with fail
                have hr1 := rightA_calls (A := A6) (c := c6) HF6.out 3 3 (by omega) (xs := xs.take k) (by have := HTL.out; have := HLE.out; have := HKN.out; omega) (by rw [HTL.out]; exact HSK.out.fr HG6.out) HTX.out
                rw [HTL.out, HV.out, hVe] at hr1
                refine hr1.mono ?_
                clear hr1 hVe hck
                rintro r w7 ⟨rfl, hf7⟩
                have HF7 := Hd.mk (HF6.out.trans hf7)
                clear hf7
                go_wp2
                go_ret
                exact ⟨rfl, HF7.out⟩
            · have hjw : V.length < W.length := by omega
              have hjwI : (V.length : Int) < (W.length : Int) := by omega
              obtain ⟨b, off, rfl, hb, hc⟩ := cI_at HSW3.out hjw
              obtain ⟨y, hy⟩ : ∃ y, W[V.length] = y := ⟨_, rfl⟩
              have hyk : ¬ y < (k : Int) := by
                have e : W[V.length]? = R[0]? := by rw [HWR.out, List.getElem?_append_right (Nat.le_refl _)]; simp
                rw [List.getElem?_eq_getElem hjw, hy] at e
                have := HRK.out y (List.mem_of_getElem? e.symm)
                omega
              have d0 := HFJ.out.cell (hc V.length hjw) (by simp)
              rw [hy] at d0
              have HSWB := HSW3
              clear hc hb hy hE hvl
              go_wp2_with fail
              refine (ints_calls (xs := W.take V.length) (ys := V) (SlIs.take (HSW3.out.fr HFJ.out) HVL.out) (HSV.out.fr HFJ.out) (by rw [List.length_take]; have := HWL.out; omega)).mono ?_
              rintro r w5 ⟨rfl, hf5⟩
              rw [show decide (W.take V.length = V) = true from decide_eq_true (by rw [HWR.out, List.take_left'] <;> rfl)]
              have HF5 := Hd.mk (HF3.out.trans (HFJ.out.trans hf5))
              have HG5 := Hd.mk (HFR3.out.trans (HFJ.out.trans hf5))
              clear hf5
              go_wp2_with fail
              have hr1 := rightA_calls (A := A6) (c := c6) HF5.out 3 3 (by omega) (xs := xs) (by have := HLE.out; have := HN.out; omega) (by rw [HN.out]; exact HS6.out.fr HG5.out) HXW.out
              rw [HN.out, HW.out] at hr1
              refine hr1.mono ?_
              clear hr1
              rintro r w6 ⟨rfl, hf6⟩
              have HF6 := Hd.mk (HF5.out.trans hf6)
              have HG6 := Hd.mk (HG5.out.trans hf6)
              clear hf6
              cases hWe : W.isEmpty with
              | false =>
                clear hWe
                go_wp2
                go_ret
                exact ⟨rfl, HF6.out⟩
              | true =>
                have hVe : V.isEmpty = true := by
                  have h1 := HVL.out
                  rw [List.isEmpty_iff] at hWe ⊢
                  rw [hWe] at h1
                  exact List.eq_nil_of_length_eq_zero (by simpa using h1)
                clear hWe
                have hck : (k : Int) ≤ (c6 : Int) := by have := HC6.out; have := HKN.out; have := HN.out; omega
                go_wp2_with fail
                have hr1 := rightA_calls (A := A6) (c := c6) HF6.out 3 3 (by omega) (xs := xs.take k) (by have := HTL.out; have := HLE.out; have := HKN.out; omega) (by rw [HTL.out]; exact HSK.out.fr HG6.out) HTX.out
                rw [HTL.out, HV.out, hVe] at hr1
                refine hr1.mono ?_
                clear hr1 hVe hck
                rintro r w7 ⟨rfl, hf7⟩
                have HF7 := Hd.mk (HF6.out.trans hf7)
                clear hf7
                go_wp2
                go_ret
                exact ⟨rfl, HF7.out⟩
end Go.Proofs.Ytbmejolmbfmdiaa
