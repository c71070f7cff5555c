import Derived.Test.YtnikhiegnledlaaM15
import Derived.Test.YtnikhiegnledlaaRegT
namespace Go.Proofs.Ytnikhiegnledlaa
open Go Go.RowKit Go.Proofs.MapL PPM Go.Proofs.YtnikhiegnledlaaW.PrintWords

attribute [local go_sem high] eqA25
set_option maxRecDepth 100000 in
set_option maxHeartbeats 8000000 in
theorem due_law {w : World} {v : Value} {ds : List Dd} (hD : DeedsAt w v ds) (now : Int) (q : Qn) : Calls Try.prog 6 #[v, .int .u64 now, q.v] w fun r w' => r = .returned (.bool true) ∧ Fr [] w w' := by
  unfold Qn.v
  go_enter Try.func6, Try.ntmps6
  go_upto_region 1 with (fail)
  refine wp_name ?_
  intro w0 hw0
  have hF := alloc_of hw0
  have hq := blk_of (T := 25) (c := [.string q.name, .int .u16 q.ty, .int .u16 q.cl]) hw0
  have hD0 := hD.fr hF
  clear hw0
  obtain ⟨c1_0, c1_1, c1_2, c1_f⟩ := hq.cells3
  go_wp2_with fail
  clear c1_0 c1_1 c1_2 c1_f
  refine (shown_calls _).mono ?_
  rintro r ws ⟨rfl, hf⟩
  have hF_1 := hF.trans hf
  have hq_1 := hq.fr hf (by simp)
  have hD_1 := hD0.fr hf
  clear hF hq hD0
  clear hf
  obtain ⟨c1_0, c1_1, c1_2, c1_f⟩ := hq_1.cells3
  go_wp2_with fail
  clear c1_0 c1_1 c1_2 c1_f
  refine (ran_calls hD_1).mono ?_
  rintro r wr_ ⟨p, b, X, v_, rfl, hDS, hX5, hf, hp, hb⟩
  have hqb : w.heap.size ∉ [b] := by have := hq_1.lt; simp; omega
  have hbw : w.heap.size ≤ b := by have := hF_1.size; omega
  clear hD_1
  have hF_2 := hF_1.trans hf
  have hq_2 := hq_1.fr hf (by simp)
  clear hF_1 hq_1
  clear hf hp hb
  have hM := hDS.m
  have hR := hDS.rr
  have HA : Hd (Ap (ents X)) := Hd.mk hDS.apart
  clear hDS
  obtain ⟨N, hN⟩ : ∃ N : Int, ((ents X).length : Int) = N := ⟨_, rfl⟩
  have hN0 : 0 ≤ N := by omega
  have hN5 : N ≤ 5 := by rw [List.length_map] at hN; omega
  obtain ⟨c1_0, c1_1, c1_2, c1_f⟩ := hq_2.cells3
  go_wp2_with fail
  clear c1_0 c1_1 c1_2 c1_f
  refine (len_calls hM).mono ?_
  rintro r wl ⟨rfl, rfl⟩
  rw [hN]
  have HN := Hd.mk hN
  clear hN
  obtain ⟨c1_0, c1_1, c1_2, c1_f⟩ := hq_2.cells3
  go_wp2_with fail
  clear c1_0 c1_1 c1_2 c1_f
  refine (lookx_calls hM hR q now).mono ?_
  rintro r wl1 ⟨hf, A1, c1, rfl, hl1, hK1⟩
  obtain ⟨s1, es1⟩ : ∃ s, lookS (X) q now = s := ⟨_, rfl⟩
  obtain ⟨i1, ei1⟩ : ∃ i, (lookX (X) q now).isSome = i := ⟨_, rfl⟩
  rw [es1] at hl1 hK1
  rw [es1, ei1]
  have ES1 := Hd.mk es1
  have EI1 := Hd.mk ei1
  clear es1 ei1
  have hF_3 := hF_2.trans hf
  have hq_3 := hq_2.fr hf (by simp)
  have hM_1 := hM.fr hf (by simp) (by simp)
  have hR_1 := fun x hx => (hR x hx).step hf (by simp)
  clear hF_2 hq_2 hM hR
  clear hf
  obtain ⟨c1_0, c1_1, c1_2, c1_f⟩ := hq_3.cells3
  go_upto_region 5 with (fail)
  clear c1_0 c1_1 c1_2 c1_f
  refine wp_name ?_
  intro w_1 hw_
  have hf_w_1 := alloc_of hw_
  have hx := blk_of (T := 35) (c := [.string s1.f0.f0, .int .u16 s1.f0.f1, .int .u16 s1.f0.f2, .slice A1 s1.f1.length c1, .int .i64 s1.f2, .int .i64 s1.f3, .int .u64 s1.f4]) hw_
  clear hw_
  have hF_4 := hF_3.trans hf_w_1
  have hq_4 := hq_3.fr hf_w_1 (by simp)
  have hM_2 := hM_1.fr hf_w_1 (by simp) (by simp)
  have hR_2 := fun x hx => (hR_1 x hx).step hf_w_1 (by simp)
  have hK1_1 := Kd.F_step hK1 fun k hk hlt => hf_w_1.block k hlt (by simp)
  clear hF_3 hq_3 hM_1 hR_1 hK1
  clear hf_w_1
  have hxb := blk_ne_map hM_2 hx (by decide)
  obtain ⟨c1_0, c1_1, c1_2, c1_f⟩ := hq_4.cells3
  obtain ⟨c5_0, c5_1, c5_2, c5_3, c5_4, c5_5, c5_6, c5_f⟩ := hx.cells7
  go_wp2_with fail
  clear c1_0 c1_1 c1_2 c1_f c5_0 c5_1 c5_2 c5_3 c5_4 c5_5 c5_6 c5_f
  refine (has_calls hM_2 q).mono ?_
  rintro r wh ⟨rfl, hf⟩
  have hF_5 := hF_4.trans hf
  have hq_5 := hq_4.fr hf (by simp)
  have hM_3 := hM_2.fr hf (by simp) (by simp)
  have hR_3 := fun x hx => (hR_2 x hx).step hf (by simp)
  have hK1_2 := Kd.F_step hK1_1 fun k hk hlt => hf.block k hlt (by simp)
  have hx_1 := hx.fr hf (by simp)
  clear hF_4 hq_4 hM_2 hR_2 hK1_1 hx
  clear hf
  obtain ⟨H, hH⟩ : ∃ H, (findE (ents X) q).isSome = H := ⟨_, rfl⟩
  rw [hH]
  have HH := Hd.mk hH
  clear hH
  obtain ⟨c1_0, c1_1, c1_2, c1_f⟩ := hq_5.cells3
  obtain ⟨c5_0, c5_1, c5_2, c5_3, c5_4, c5_5, c5_6, c5_f⟩ := hx_1.cells7
  go_wp2_with fail
  clear c1_0 c1_1 c1_2 c1_f c5_0 c5_1 c5_2 c5_3 c5_4 c5_5 c5_6 c5_f
  refine (due_calls hM_3 (by have := HN.out; omega) now).mono ?_
  rintro r wd ⟨vd, rfl, ho, -, hMi, hf⟩
  have hF_6 := hF_5.weak hf (by simpa using hbw)
  have hq_6 := hq_5.fr hf hqb
  have hR_4 := fun x hx => (hR_3 x hx).frb hf
  have hK1_3 := Kd.F_step hK1_2 fun k hk hlt => hf.block k hlt (by simpa using hk.2)
  have hx_2 := hx_1.fr hf hxb
  clear hF_5 hq_5 hM_3 hR_3 hK1_2 hx_1
  clear hf
  have HRL : Hd (∀ x ∈ liveX X now, RrOk wd (Nb p b) x) := Hd.mk fun x hx => hR_4 x (List.mem_filter.1 hx).1
  clear hR_4
  obtain ⟨A, c, rfl, hat⟩ := own_at ho
  clear ho
  have hgo : ∀ x ∈ dueS (ents X) now, (findE (liveL (ents X) now) x).isSome = false := fun x hx => due_gone HA.out hx
  have hto := due_told HA.out q now
  have hle := due_len (ents X) now
  have hri := due_rises HA.out now
  obtain ⟨ks, hks⟩ : ∃ ks, dueS (ents X) now = ks := ⟨_, rfl⟩
  rw [hks] at hat hgo hto hle hri ⊢
  have hk5 : ks.length ≤ 5 := by have := HN.out; omega
  have hNK : ((liveL (ents X) now).length : Int) = N - ks.length := by have := HN.out; omega
  have HAT := Hd.mk hat
  have HGO_ := Hd.mk hgo
  have HTO := Hd.mk hto
  have HRI := Hd.mk hri
  have HNK := Hd.mk hNK
  clear hat hgo hto hle hri hks hNK
  have HTO2 : Hd ((ks.any fun x => decide (x = q)) = (H && !i1)) := Hd.mk (by rw [HTO.out, HH.out, ← lookX_B, EI1.out])
  clear HTO
  have HM := Hd.mk hMi
  have HQ := Hd.mk hq_6
  have HF := Hd.mk hF_6
  clear hMi hq_6 hF_6 hx_2 hK1_3
  go_wp2_with fail
  go_loopw [14, 15] (fun v14 i w6 => ∃ k : Nat, k ≤ ks.length ∧ i = .int .i64 k ∧ v14 = .bool ((ks.take k).any fun x => decide (x = q)) ∧ Fr [] wd w6) (fun _ i _ => ks.length - (intOf i).toNat)
  case atStart => exact ⟨0, Nat.zero_le _, rfl, rfl, Fr.refl _ _⟩
  case round =>
    obtain ⟨k, hk, rfl, rfl, hFr⟩ := hrel
    by_cases hlt : k < ks.length
    · obtain ⟨g, off, rfl, hcc⟩ := HAT.out (by omega)
      have hcx := fun j u hu => hFr.cell (hcc k hlt j u hu) (by simp)
      obtain ⟨x, hx⟩ : ∃ x, ks[k] = x := ⟨_, rfl⟩
      have hgx := HGO_.out ks[k] (List.getElem_mem hlt)
      rw [hx] at hcx hgx
      have HGO := Hd.mk hgx
      have HCX : Hd (wr.cell? ⟨g, off + k * 3, none⟩ = some (.string x.name) ∧ wr.cell? ⟨g, off + k * 3 + 1, none⟩ = some (.int .u16 x.ty) ∧ wr.cell? ⟨g, off + k * 3 + 2, none⟩ = some (.int .u16 x.cl)) := Hd.mk ⟨hcx 0 _ rfl, hcx 1 _ rfl, hcx 2 _ rfl⟩
      obtain ⟨B, hB⟩ : ∃ B, decide (x = q) = B := ⟨_, rfl⟩
      have HB : Hd ((x.name.toList == q.name.toList && (x.ty == q.ty && (x.cl == q.cl))) = B) := Hd.mk ((q_eq x q).trans hB)
      have hnx := any_next (q := q) hlt
      rw [hx, hB] at hnx
      have HNX := Hd.mk hnx
      clear hnx hB hgx hcx
      have HM := Hd.mk (HM.out.fr hFr (by simp) (by simp))
      have HQ := Hd.mk (HQ.out.fr hFr (by simp))
      have HF0 := Hd.mk hFr
      have HCC := Hd.mk hcc
      have HX := Hd.mk hx
      clear hcc hx hFr
      obtain ⟨T, hT⟩ : ∃ T, ((ks.take k).any fun x => decide (x = q)) = T := ⟨_, rfl⟩
      rw [hT] at HNX ⊢
      clear hT
      rcases T with _ | _
      · go_wp2_with fail
        refine wp_region_gt { R := Fr [], R1 := Fr [], gs := [Is (.bool false), Is (.bool false), Is (.slice (some ⟨g, off, none⟩) ks.length c), Is (.int .i64 k), Is (.pointer (some ⟨g, off + k * 3, none⟩)), Is (.agg #[.string x.name, .int .u16 x.ty, .int .u16 x.cl]), Is (.agg #[.string q.name, .int .u16 q.ty, .int .u16 q.cl]), Is (.bool B), Is (.bool B)], ds := [some 42, some 43, some 44, some 45, some 46, some 47, some 48, some 49, some 50], fl := [false, false, false, false, false, false, false, false, false], hs := [], hd := [] } 9 [false, false, false, false, false, false, false, false, false, false, false, false, false, false, false, false, false, false, false, false, false, false, false, false, false, false, false, false, false, false, false, false, false, false, false, false, false, false, false, false, false, false, true, true, true, true, true, true, true, true, true, false, false, false, false, false, false, false, false, false, false, false, false, false, false, false, false, false, false, false, false, false, false, false, false, false, false, false, false, false, false, false, false, false, false, false, false, false, false, false, false, false, false, false, false, false, false, false, false, false, false, false, false, false, false, false, false, false, false, false, false, false, false, false, false, false, false, false, false] (by kernel_rfl) _ (by kernel_rfl) (by kernel_rfl) (by kernel_rfl) (by kernel_rfl) (by kernel_rfl) (Nat.le_refl _) [] (fun _ _ _ h1 h2 => h1.trans h2) (fun _ _ h => h) (staI (staI (staI (staI (staI (staI (staI (staI (staI sta0))))))))) (fun _ _ h => h.size) _ (Fr.refl _ _) ?_ ?_
        · refine ⟨?_, ?_, ?_, ?_, ?_, ?_, ?_, ?_, ?_, trivial⟩
          · intro σ w' hR hd
            simp only [fill, Nat.reduceAdd, if_true, Bool.false_eq_true, if_false]
            clear hd
            go_wp2
            exact ⟨Fr.refl _ _, rfl⟩
          · intro σ w' hR hd
            simp only [fill, Nat.reduceAdd, if_true, Bool.false_eq_true, if_false]
            obtain h42 : σ 42 = _ := hd 0 (by decide)
            rw [h42]
            clear h42
            clear hd
            go_wp2
            exact ⟨Fr.refl _ _, rfl⟩
          · intro σ w' hR hd
            simp only [fill, Nat.reduceAdd, if_true, Bool.false_eq_true, if_false]
            obtain h43 : σ 43 = _ := hd 1 (by decide)
            rw [h43]
            clear h43
            clear hd
            go_wp2
            exact ⟨Fr.refl _ _, rfl⟩
          · intro σ w' hR hd
            simp only [fill, Nat.reduceAdd, if_true, Bool.false_eq_true, if_false]
            obtain h43 : σ 43 = _ := hd 1 (by decide)
            rw [h43]
            clear h43
            clear hd
            go_wp2
            exact ⟨Fr.refl _ _, rfl⟩
          · intro σ w' hR hd
            simp only [fill, Nat.reduceAdd, if_true, Bool.false_eq_true, if_false]
            obtain h43 : σ 43 = _ := hd 1 (by decide)
            obtain h44 : σ 44 = _ := hd 2 (by decide)
            obtain h45 : σ 45 = _ := hd 3 (by decide)
            rw [h43, h44, h45]
            clear h43 h44 h45
            clear hd
            go_wp2
            exact ⟨Fr.refl _ _, rfl⟩
          · intro σ w' hR hd
            simp only [fill, Nat.reduceAdd, if_true, Bool.false_eq_true, if_false]
            obtain h43 : σ 43 = _ := hd 1 (by decide)
            obtain h46 : σ 46 = _ := hd 4 (by decide)
            rw [h43, h46]
            clear h43 h46
            clear hd
            have hfr := (Fr.drew (Fr.refl [] _)).trans hR
            obtain ⟨cx0, cx1, cx2⟩ := HCX.out
            have dx0 := hfr.cell cx0 (by simp)
            have dx1 := hfr.cell cx1 (by simp)
            have dx2 := hfr.cell cx2 (by simp)
            clear cx0 cx1 cx2
            go_wp2
            exact ⟨Fr.refl _ _, rfl⟩
          · intro σ w' hR hd
            simp only [fill, Nat.reduceAdd, if_true, Bool.false_eq_true, if_false]
            obtain h43 : σ 43 = _ := hd 1 (by decide)
            rw [h43]
            clear h43
            clear hd
            have hfr := (Fr.drew (Fr.refl [] _)).trans hR
            obtain ⟨b0, b1, b2, bf⟩ := (HQ.out.fr hfr (by simp)).cells3
            go_wp2
            exact ⟨Fr.refl _ _, rfl⟩
          · intro σ w' hR hd
            simp only [fill, Nat.reduceAdd, if_true, Bool.false_eq_true, if_false]
            obtain h43 : σ 43 = _ := hd 1 (by decide)
            obtain h47 : σ 47 = _ := hd 5 (by decide)
            obtain h48 : σ 48 = _ := hd 6 (by decide)
            rw [h43, h47, h48]
            clear h43 h47 h48
            clear hd
            have hB := HB.out
            go_wp2
            exact ⟨Fr.refl _ _, rfl⟩
          · intro σ w' hR hd
            simp only [fill, Nat.reduceAdd, if_true, Bool.false_eq_true, if_false]
            obtain h43 : σ 43 = _ := hd 1 (by decide)
            obtain h49 : σ 49 = _ := hd 7 (by decide)
            rw [h43, h49]
            clear h43 h49
            clear hd
            go_wp2
            exact ⟨Fr.refl _ _, rfl⟩
        · intro σ w3 hR hG
          obtain h50 : σ 50 = _ := hG 8 (by decide)
          simp only [fill, Nat.reduceAdd, if_true, Bool.false_eq_true, if_false, List.drop_succ_cons, List.drop_zero, h50]
          clear h50
          clear hG
          have HF1 := Hd.mk ((Fr.drew (Fr.refl [] _)).trans hR)
          clear hR
          rcases Nat.eq_zero_or_pos k with hk0 | hk0
          · have HK0 := Hd.mk hk0
            clear hk0
            go_wp2_with fail
            refine wp_region_gs { R := Fr [], R1 := Fr [], gs := [Is (.pointer (some ⟨p, 0, none⟩)), Is (.slice (some ⟨g, off, none⟩) ks.length c), Is (.int .i64 k), Is (.pointer (some ⟨g, off + k * 3, none⟩)), Is (.agg #[.string x.name, .int .u16 x.ty, .int .u16 x.cl]), Is (.bool false), Is (.bool false), Is (.int .i64 k), Is (.bool false), Is (.bool false), No, No, No, No, No, No, No, No, No, No, No, Is (.bool false), Is (.bool false)], ds := [some 51, some 52, some 53, some 54, some 55, some 56, some 57, some 58, some 59, some 60, some 61, some 62, some 63, some 64, some 65, some 66, some 67, some 68, some 69, some 70, some 71, some 72, some 73], fl := [false, false, false, false, false, false, false, false, false, false, false, false, false, false, false, false, false, false, false, false, false, false, false], hs := [], hd := [] } [false, false, false, false, false, false, false, false, false, false, false, false, false, false, false, false, false, false, false, false, false, false, false, false, false, false, false, false, false, false, false, false, false, false, false, false, false, false, false, false, false, false, false, false, false, false, false, false, false, false, false, true, true, true, true, true, true, true, true, true, true, true, true, true, true, true, true, true, true, true, true, true, true, true, false, false, false, false, false, false, false, false, false, false, false, false, false, false, false, false, false, false, false, false, false, false, false, false, false, false, false, false, false, false, false, false, false, false, false, false, false, false, false, false, false, false, false, false, false] (by kernel_rfl) _ (by kernel_rfl) (by kernel_rfl) (by kernel_rfl) (by kernel_rfl) rfl [] (fun _ _ _ h1 h2 => h1.trans h2) (fun _ _ h => h) (staI (staI (staI (staI (staI (staI (staI (staI (staI (staI (staN (staN (staN (staN (staN (staN (staN (staN (staN (staN (staN (staI (staI sta0))))))))))))))))))))))) sth0 (fun _ _ h => h.size) _ (Fr.refl _ _) trivial ?_ ?_
            · refine ⟨?_, ?_, ?_, ?_, ?_, ?_, ?_, ?_, ?_, ?_, ?_, ?_, ?_, ?_, ?_, ?_, ?_, ?_, ?_, ?_, ?_, ?_, ?_, trivial⟩
              · intro σ w' hR hd
                simp only [fill, Nat.reduceAdd, if_true, Bool.false_eq_true, if_false]
                clear hd
                go_wp2
                exact ⟨Fr.refl _ _, rfl⟩
              · intro σ w' hR hd
                simp only [fill, Nat.reduceAdd, if_true, Bool.false_eq_true, if_false]
                clear hd
                go_wp2
                exact ⟨Fr.refl _ _, rfl⟩
              · intro σ w' hR hd
                simp only [fill, Nat.reduceAdd, if_true, Bool.false_eq_true, if_false]
                clear hd
                go_wp2
                exact ⟨Fr.refl _ _, rfl⟩
              · intro σ w' hR hd
                simp only [fill, Nat.reduceAdd, if_true, Bool.false_eq_true, if_false]
                obtain h52 : σ 52 = _ := hd 1 (by decide)
                obtain h53 : σ 53 = _ := hd 2 (by decide)
                rw [h52, h53]
                clear h52 h53
                clear hd
                go_wp2
                exact ⟨Fr.refl _ _, rfl⟩
              · intro σ w' hR hd
                simp only [fill, Nat.reduceAdd, if_true, Bool.false_eq_true, if_false]
                obtain h54 : σ 54 = _ := hd 3 (by decide)
                rw [h54]
                clear h54
                clear hd
                have hfr := HF1.out.trans ((Fr.drew (Fr.refl [] _)).trans hR)
                obtain ⟨cx0, cx1, cx2⟩ := HCX.out
                have dx0 := hfr.cell cx0 (by simp)
                have dx1 := hfr.cell cx1 (by simp)
                have dx2 := hfr.cell cx2 (by simp)
                clear cx0 cx1 cx2
                go_wp2
                exact ⟨Fr.refl _ _, rfl⟩
              · intro σ w' hR hd
                simp only [fill, Nat.reduceAdd, if_true, Bool.false_eq_true, if_false]
                obtain h51 : σ 51 = _ := hd 0 (by decide)
                obtain h55 : σ 55 = _ := hd 4 (by decide)
                rw [h51, h55]
                clear h51 h55
                clear hd
                have hfr := HF1.out.trans ((Fr.drew (Fr.refl [] _)).trans hR)
                have hm := HM.out.fr hfr (by simp) (by simp)
                go_wp2_with fail
                refine (has_calls hm x).mono ?_
                rintro e w4 ⟨rfl, hf⟩
                rw [HGO.out]
                have HFF := Hd.mk hf
                clear hf
                go_wp2
                exact ⟨HFF.out, rfl⟩
              · intro σ w' hR hd
                simp only [fill, Nat.reduceAdd, if_true, Bool.false_eq_true, if_false]
                obtain h56 : σ 56 = _ := hd 5 (by decide)
                rw [h56]
                clear h56
                clear hd
                go_wp2
                exact ⟨Fr.refl _ _, rfl⟩
              · intro σ w' hR hd
                simp only [fill, Nat.reduceAdd, if_true, Bool.false_eq_true, if_false]
                obtain h57 : σ 57 = _ := hd 6 (by decide)
                rw [h57]
                clear h57
                clear hd
                go_wp2
                exact ⟨Fr.refl _ _, rfl⟩
              · intro σ w' hR hd
                simp only [fill, Nat.reduceAdd, if_true, Bool.false_eq_true, if_false]
                obtain h57 : σ 57 = _ := hd 6 (by decide)
                obtain h58 : σ 58 = _ := hd 7 (by decide)
                rw [h57, h58]
                clear h57 h58
                clear hd
                have hk0 := HK0.out
                go_wp2
                exact ⟨Fr.refl _ _, rfl⟩
              · intro σ w' hR hd
                simp only [fill, Nat.reduceAdd, if_true, Bool.false_eq_true, if_false]
                obtain h57 : σ 57 = _ := hd 6 (by decide)
                obtain h59 : σ 59 = _ := hd 8 (by decide)
                rw [h57, h59]
                clear h57 h59
                clear hd
                go_wp2
                exact ⟨Fr.refl _ _, rfl⟩
              · intro σ w' hR hd
                simp only [fill, Nat.reduceAdd, if_true, Bool.false_eq_true, if_false]
                obtain h60 : σ 60 = _ := hd 9 (by decide)
                rw [h60]
                clear h60
                clear hd
                go_wp2
                exact ⟨Fr.refl _ _, trivial⟩
              · intro σ w' hR hd
                simp only [fill, Nat.reduceAdd, if_true, Bool.false_eq_true, if_false]
                obtain h60 : σ 60 = _ := hd 9 (by decide)
                rw [h60]
                clear h60
                clear hd
                go_wp2
                exact ⟨Fr.refl _ _, trivial⟩
              · intro σ w' hR hd
                simp only [fill, Nat.reduceAdd, if_true, Bool.false_eq_true, if_false]
                obtain h60 : σ 60 = _ := hd 9 (by decide)
                rw [h60]
                clear h60
                clear hd
                go_wp2
                exact ⟨Fr.refl _ _, trivial⟩
              · intro σ w' hR hd
                simp only [fill, Nat.reduceAdd, if_true, Bool.false_eq_true, if_false]
                obtain h60 : σ 60 = _ := hd 9 (by decide)
                rw [h60]
                clear h60
                clear hd
                go_wp2
                exact ⟨Fr.refl _ _, trivial⟩
              · intro σ w' hR hd
                simp only [fill, Nat.reduceAdd, if_true, Bool.false_eq_true, if_false]
                obtain h60 : σ 60 = _ := hd 9 (by decide)
                rw [h60]
                clear h60
                clear hd
                go_wp2
                exact ⟨Fr.refl _ _, trivial⟩
              · intro σ w' hR hd
                simp only [fill, Nat.reduceAdd, if_true, Bool.false_eq_true, if_false]
                obtain h60 : σ 60 = _ := hd 9 (by decide)
                rw [h60]
                clear h60
                clear hd
                go_wp2
                exact ⟨Fr.refl _ _, trivial⟩
              · intro σ w' hR hd
                simp only [fill, Nat.reduceAdd, if_true, Bool.false_eq_true, if_false]
                obtain h60 : σ 60 = _ := hd 9 (by decide)
                rw [h60]
                clear h60
                clear hd
                go_wp2
                exact ⟨Fr.refl _ _, trivial⟩
              · intro σ w' hR hd
                simp only [fill, Nat.reduceAdd, if_true, Bool.false_eq_true, if_false]
                obtain h60 : σ 60 = _ := hd 9 (by decide)
                rw [h60]
                clear h60
                clear hd
                go_wp2
                exact ⟨Fr.refl _ _, trivial⟩
              · intro σ w' hR hd
                simp only [fill, Nat.reduceAdd, if_true, Bool.false_eq_true, if_false]
                obtain h60 : σ 60 = _ := hd 9 (by decide)
                rw [h60]
                clear h60
                clear hd
                go_wp2
                exact ⟨Fr.refl _ _, trivial⟩
              · intro σ w' hR hd
                simp only [fill, Nat.reduceAdd, if_true, Bool.false_eq_true, if_false]
                obtain h60 : σ 60 = _ := hd 9 (by decide)
                rw [h60]
                clear h60
                clear hd
                go_wp2
                exact ⟨Fr.refl _ _, trivial⟩
              · intro σ w' hR hd
                simp only [fill, Nat.reduceAdd, if_true, Bool.false_eq_true, if_false]
                obtain h60 : σ 60 = _ := hd 9 (by decide)
                rw [h60]
                clear h60
                clear hd
                go_wp2
                exact ⟨Fr.refl _ _, trivial⟩
              · intro σ w' hR hd
                simp only [fill, Nat.reduceAdd, if_true, Bool.false_eq_true, if_false]
                obtain h57 : σ 57 = _ := hd 6 (by decide)
                obtain h60 : σ 60 = _ := hd 9 (by decide)
                rw [h57, h60]
                clear h57 h60
                clear hd
                go_wp2
                exact ⟨Fr.refl _ _, rfl⟩
              · intro σ w' hR hd
                simp only [fill, Nat.reduceAdd, if_true, Bool.false_eq_true, if_false]
                obtain h57 : σ 57 = _ := hd 6 (by decide)
                obtain h72 : σ 72 = _ := hd 21 (by decide)
                rw [h57, h72]
                clear h57 h72
                clear hd
                go_wp2
                exact ⟨Fr.refl _ _, rfl⟩
            · intro σ w3 hR hG hH
              obtain h73 : σ 73 = _ := hG 22 (by decide)
              simp only [fill, Nat.reduceAdd, if_true, Bool.false_eq_true, if_false, h73]
              clear h73
              clear hG
              have HF2 := Hd.mk (HF0.out.trans (HF1.out.trans ((Fr.drew (Fr.refl [] _)).trans hR)))
              clear hR hH
              go_wp2
              go_roundw
              case rel => exact ⟨k + 1, by omega, by go_num, by rw [HNX.out]; rfl, HF2.out⟩
              case measure => simp [intOf]; omega
          · obtain ⟨m, hm⟩ : ∃ m, k = m + 1 := ⟨k - 1, by omega⟩
            have hml : m < ks.length := by omega
            have hcy := fun j u hu => HF0.out.cell (HCC.out m hml j u hu) (by simp)
            have hle := List.pairwise_iff_getElem.1 HRI.out m k hml hlt (by omega)
            obtain ⟨y, hy⟩ : ∃ y, ks[m] = y := ⟨_, rfl⟩
            rw [hy] at hcy hle
            rw [HX.out] at hle
            have HLE := Hd.mk hle
            have HCY : Hd (wr.cell? ⟨g, off + m * 3, none⟩ = some (.string y.name) ∧ wr.cell? ⟨g, off + m * 3 + 1, none⟩ = some (.int .u16 y.ty) ∧ wr.cell? ⟨g, off + m * 3 + 2, none⟩ = some (.int .u16 y.cl)) := Hd.mk ⟨hcy 0 _ rfl, hcy 1 _ rfl, hcy 2 _ rfl⟩
            clear hcy hle hy
            have HK0 := Hd.mk hk0
            have HKM := Hd.mk hm
            clear hk0 hm
            go_wp2_with fail
            refine wp_region_gs { R := Fr [], R1 := Fr [], gs := [Is (.pointer (some ⟨p, 0, none⟩)), Is (.slice (some ⟨g, off, none⟩) ks.length c), Is (.int .i64 k), Is (.pointer (some ⟨g, off + k * 3, none⟩)), Is (.agg #[.string x.name, .int .u16 x.ty, .int .u16 x.cl]), Is (.bool false), Is (.bool false), Is (.int .i64 k), Is (.bool true), Is (.bool true), Is (.slice (some ⟨g, off, none⟩) ks.length c), Is (.int .i64 k), Is (.int .i64 m), Is (.pointer (some ⟨g, off + m * 3, none⟩)), Is (.agg #[.string y.name, .int .u16 y.ty, .int .u16 y.cl]), Is (.slice (some ⟨g, off, none⟩) ks.length c), Is (.int .i64 k), Is (.pointer (some ⟨g, off + k * 3, none⟩)), Is (.agg #[.string x.name, .int .u16 x.ty, .int .u16 x.cl]), Is (.bool true), Is (.bool false), Is (.bool false), Is (.bool false)], ds := [some 51, some 52, some 53, some 54, some 55, some 56, some 57, some 58, some 59, some 60, some 61, some 62, some 63, some 64, some 65, some 66, some 67, some 68, some 69, some 70, some 71, some 72, some 73], fl := [false, false, false, false, false, false, false, false, false, false, false, false, false, false, false, false, false, false, false, false, false, false, false], hs := [], hd := [] } [false, false, false, false, false, false, false, false, false, false, false, false, false, false, false, false, false, false, false, false, false, false, false, false, false, false, false, false, false, false, false, false, false, false, false, false, false, false, false, false, false, false, false, false, false, false, false, false, false, false, false, true, true, true, true, true, true, true, true, true, true, true, true, true, true, true, true, true, true, true, true, true, true, true, false, false, false, false, false, false, false, false, false, false, false, false, false, false, false, false, false, false, false, false, false, false, false, false, false, false, false, false, false, false, false, false, false, false, false, false, false, false, false, false, false, false, false, false, false] (by kernel_rfl) _ (by kernel_rfl) (by kernel_rfl) (by kernel_rfl) (by kernel_rfl) rfl [] (fun _ _ _ h1 h2 => h1.trans h2) (fun _ _ h => h) (staI (staI (staI (staI (staI (staI (staI (staI (staI (staI (staI (staI (staI (staI (staI (staI (staI (staI (staI (staI (staI (staI (staI sta0))))))))))))))))))))))) sth0 (fun _ _ h => h.size) _ (Fr.refl _ _) trivial ?_ ?_
            · refine ⟨?_, ?_, ?_, ?_, ?_, ?_, ?_, ?_, ?_, ?_, ?_, ?_, ?_, ?_, ?_, ?_, ?_, ?_, ?_, ?_, ?_, ?_, ?_, trivial⟩
              · intro σ w' hR hd
                simp only [fill, Nat.reduceAdd, if_true, Bool.false_eq_true, if_false]
                clear hd
                go_wp2
                exact ⟨Fr.refl _ _, rfl⟩
              · intro σ w' hR hd
                simp only [fill, Nat.reduceAdd, if_true, Bool.false_eq_true, if_false]
                clear hd
                go_wp2
                exact ⟨Fr.refl _ _, rfl⟩
              · intro σ w' hR hd
                simp only [fill, Nat.reduceAdd, if_true, Bool.false_eq_true, if_false]
                clear hd
                go_wp2
                exact ⟨Fr.refl _ _, rfl⟩
              · intro σ w' hR hd
                simp only [fill, Nat.reduceAdd, if_true, Bool.false_eq_true, if_false]
                obtain h52 : σ 52 = _ := hd 1 (by decide)
                obtain h53 : σ 53 = _ := hd 2 (by decide)
                rw [h52, h53]
                clear h52 h53
                clear hd
                go_wp2
                exact ⟨Fr.refl _ _, rfl⟩
              · intro σ w' hR hd
                simp only [fill, Nat.reduceAdd, if_true, Bool.false_eq_true, if_false]
                obtain h54 : σ 54 = _ := hd 3 (by decide)
                rw [h54]
                clear h54
                clear hd
                have hfr := HF1.out.trans ((Fr.drew (Fr.refl [] _)).trans hR)
                obtain ⟨cx0, cx1, cx2⟩ := HCX.out
                have dx0 := hfr.cell cx0 (by simp)
                have dx1 := hfr.cell cx1 (by simp)
                have dx2 := hfr.cell cx2 (by simp)
                clear cx0 cx1 cx2
                go_wp2
                exact ⟨Fr.refl _ _, rfl⟩
              · intro σ w' hR hd
                simp only [fill, Nat.reduceAdd, if_true, Bool.false_eq_true, if_false]
                obtain h51 : σ 51 = _ := hd 0 (by decide)
                obtain h55 : σ 55 = _ := hd 4 (by decide)
                rw [h51, h55]
                clear h51 h55
                clear hd
                have hfr := HF1.out.trans ((Fr.drew (Fr.refl [] _)).trans hR)
                have hm := HM.out.fr hfr (by simp) (by simp)
                go_wp2_with fail
                refine (has_calls hm x).mono ?_
                rintro e w4 ⟨rfl, hf⟩
                rw [HGO.out]
                have HFF := Hd.mk hf
                clear hf
                go_wp2
                exact ⟨HFF.out, rfl⟩
              · intro σ w' hR hd
                simp only [fill, Nat.reduceAdd, if_true, Bool.false_eq_true, if_false]
                obtain h56 : σ 56 = _ := hd 5 (by decide)
                rw [h56]
                clear h56
                clear hd
                go_wp2
                exact ⟨Fr.refl _ _, rfl⟩
              · intro σ w' hR hd
                simp only [fill, Nat.reduceAdd, if_true, Bool.false_eq_true, if_false]
                obtain h57 : σ 57 = _ := hd 6 (by decide)
                rw [h57]
                clear h57
                clear hd
                go_wp2
                exact ⟨Fr.refl _ _, rfl⟩
              · intro σ w' hR hd
                simp only [fill, Nat.reduceAdd, if_true, Bool.false_eq_true, if_false]
                obtain h57 : σ 57 = _ := hd 6 (by decide)
                obtain h58 : σ 58 = _ := hd 7 (by decide)
                rw [h57, h58]
                clear h57 h58
                clear hd
                have hk0 := HK0.out
                go_wp2
                exact ⟨Fr.refl _ _, rfl⟩
              · intro σ w' hR hd
                simp only [fill, Nat.reduceAdd, if_true, Bool.false_eq_true, if_false]
                obtain h57 : σ 57 = _ := hd 6 (by decide)
                obtain h59 : σ 59 = _ := hd 8 (by decide)
                rw [h57, h59]
                clear h57 h59
                clear hd
                go_wp2
                exact ⟨Fr.refl _ _, rfl⟩
              · intro σ w' hR hd
                simp only [fill, Nat.reduceAdd, if_true, Bool.false_eq_true, if_false]
                obtain h60 : σ 60 = _ := hd 9 (by decide)
                rw [h60]
                clear h60
                clear hd
                go_wp2
                exact ⟨Fr.refl _ _, rfl⟩
              · intro σ w' hR hd
                simp only [fill, Nat.reduceAdd, if_true, Bool.false_eq_true, if_false]
                obtain h60 : σ 60 = _ := hd 9 (by decide)
                rw [h60]
                clear h60
                clear hd
                go_wp2
                exact ⟨Fr.refl _ _, rfl⟩
              · intro σ w' hR hd
                simp only [fill, Nat.reduceAdd, if_true, Bool.false_eq_true, if_false]
                obtain h60 : σ 60 = _ := hd 9 (by decide)
                obtain h62 : σ 62 = _ := hd 11 (by decide)
                rw [h60, h62]
                clear h60 h62
                clear hd
                go_wp2
                exact ⟨Fr.refl _ _, by have hm := HKM.out; show Value.int _ _ = Value.int _ _; congr 1; omega⟩
              · intro σ w' hR hd
                simp only [fill, Nat.reduceAdd, if_true, Bool.false_eq_true, if_false]
                obtain h60 : σ 60 = _ := hd 9 (by decide)
                obtain h61 : σ 61 = _ := hd 10 (by decide)
                obtain h63 : σ 63 = _ := hd 12 (by decide)
                rw [h60, h61, h63]
                clear h60 h61 h63
                clear hd
                go_wp2
                exact ⟨Fr.refl _ _, rfl⟩
              · intro σ w' hR hd
                simp only [fill, Nat.reduceAdd, if_true, Bool.false_eq_true, if_false]
                obtain h60 : σ 60 = _ := hd 9 (by decide)
                obtain h64 : σ 64 = _ := hd 13 (by decide)
                rw [h60, h64]
                clear h60 h64
                clear hd
                have hfr := HF1.out.trans ((Fr.drew (Fr.refl [] _)).trans hR)
                obtain ⟨cy0, cy1, cy2⟩ := HCY.out
                have dy0 := hfr.cell cy0 (by simp)
                have dy1 := hfr.cell cy1 (by simp)
                have dy2 := hfr.cell cy2 (by simp)
                clear cy0 cy1 cy2
                go_wp2
                exact ⟨Fr.refl _ _, rfl⟩
              · intro σ w' hR hd
                simp only [fill, Nat.reduceAdd, if_true, Bool.false_eq_true, if_false]
                obtain h60 : σ 60 = _ := hd 9 (by decide)
                rw [h60]
                clear h60
                clear hd
                go_wp2
                exact ⟨Fr.refl _ _, rfl⟩
              · intro σ w' hR hd
                simp only [fill, Nat.reduceAdd, if_true, Bool.false_eq_true, if_false]
                obtain h60 : σ 60 = _ := hd 9 (by decide)
                rw [h60]
                clear h60
                clear hd
                go_wp2
                exact ⟨Fr.refl _ _, rfl⟩
              · intro σ w' hR hd
                simp only [fill, Nat.reduceAdd, if_true, Bool.false_eq_true, if_false]
                obtain h60 : σ 60 = _ := hd 9 (by decide)
                obtain h66 : σ 66 = _ := hd 15 (by decide)
                obtain h67 : σ 67 = _ := hd 16 (by decide)
                rw [h60, h66, h67]
                clear h60 h66 h67
                clear hd
                go_wp2
                exact ⟨Fr.refl _ _, rfl⟩
              · intro σ w' hR hd
                simp only [fill, Nat.reduceAdd, if_true, Bool.false_eq_true, if_false]
                obtain h60 : σ 60 = _ := hd 9 (by decide)
                obtain h68 : σ 68 = _ := hd 17 (by decide)
                rw [h60, h68]
                clear h60 h68
                clear hd
                have hfr := HF1.out.trans ((Fr.drew (Fr.refl [] _)).trans hR)
                obtain ⟨cx0, cx1, cx2⟩ := HCX.out
                have dx0 := hfr.cell cx0 (by simp)
                have dx1 := hfr.cell cx1 (by simp)
                have dx2 := hfr.cell cx2 (by simp)
                clear cx0 cx1 cx2
                go_wp2
                exact ⟨Fr.refl _ _, rfl⟩
              · intro σ w' hR hd
                simp only [fill, Nat.reduceAdd, if_true, Bool.false_eq_true, if_false]
                obtain h60 : σ 60 = _ := hd 9 (by decide)
                obtain h65 : σ 65 = _ := hd 14 (by decide)
                obtain h69 : σ 69 = _ := hd 18 (by decide)
                rw [h60, h65, h69]
                clear h60 h65 h69
                clear hd
                go_wp2_with fail
                refine (derrickref13_Less.calls _ _ _ _ _ _ true _ (by rw [less_f, HLE.out])).mono ?_
                rintro e w4 ⟨rfl, hb⟩
                have HFF := Hd.mk (fr_below hb)
                clear hb
                go_wp2
                exact ⟨HFF.out, rfl⟩
              · intro σ w' hR hd
                simp only [fill, Nat.reduceAdd, if_true, Bool.false_eq_true, if_false]
                obtain h60 : σ 60 = _ := hd 9 (by decide)
                obtain h70 : σ 70 = _ := hd 19 (by decide)
                rw [h60, h70]
                clear h60 h70
                clear hd
                go_wp2
                exact ⟨Fr.refl _ _, rfl⟩
              · intro σ w' hR hd
                simp only [fill, Nat.reduceAdd, if_true, Bool.false_eq_true, if_false]
                obtain h57 : σ 57 = _ := hd 6 (by decide)
                obtain h60 : σ 60 = _ := hd 9 (by decide)
                obtain h71 : σ 71 = _ := hd 20 (by decide)
                rw [h57, h60, h71]
                clear h57 h60 h71
                clear hd
                go_wp2
                exact ⟨Fr.refl _ _, rfl⟩
              · intro σ w' hR hd
                simp only [fill, Nat.reduceAdd, if_true, Bool.false_eq_true, if_false]
                obtain h57 : σ 57 = _ := hd 6 (by decide)
                obtain h72 : σ 72 = _ := hd 21 (by decide)
                rw [h57, h72]
                clear h57 h72
                clear hd
                go_wp2
                exact ⟨Fr.refl _ _, rfl⟩
            · intro σ w3 hR hG hH
              obtain h73 : σ 73 = _ := hG 22 (by decide)
              simp only [fill, Nat.reduceAdd, if_true, Bool.false_eq_true, if_false, h73]
              clear h73
              clear hG
              have HF2 := Hd.mk (HF0.out.trans (HF1.out.trans ((Fr.drew (Fr.refl [] _)).trans hR)))
              clear hR hH
              go_wp2
              go_roundw
              case rel => exact ⟨k + 1, by omega, by go_num, by rw [HNX.out]; rfl, HF2.out⟩
              case measure => simp [intOf]; omega
      · go_wp2_with fail
        refine wp_region_gt { R := Fr [], R1 := Fr [], gs := [Is (.bool true), Is (.bool true), No, No, No, No, No, No, Is (.bool true)], ds := [some 42, some 43, some 44, some 45, some 46, some 47, some 48, some 49, some 50], fl := [false, false, false, false, false, false, false, false, false], hs := [], hd := [] } 9 [false, false, false, false, false, false, false, false, false, false, false, false, false, false, false, false, false, false, false, false, false, false, false, false, false, false, false, false, false, false, false, false, false, false, false, false, false, false, false, false, false, false, true, true, true, true, true, true, true, true, true, false, false, false, false, false, false, false, false, false, false, false, false, false, false, false, false, false, false, false, false, false, false, false, false, false, false, false, false, false, false, false, false, false, false, false, false, false, false, false, false, false, false, false, false, false, false, false, false, false, false, false, false, false, false, false, false, false, false, false, false, false, false, false, false, false, false, false, false] (by kernel_rfl) _ (by kernel_rfl) (by kernel_rfl) (by kernel_rfl) (by kernel_rfl) (by kernel_rfl) (Nat.le_refl _) [] (fun _ _ _ h1 h2 => h1.trans h2) (fun _ _ h => h) (staI (staI (staN (staN (staN (staN (staN (staN (staI sta0))))))))) (fun _ _ h => h.size) _ (Fr.refl _ _) ?_ ?_
        · refine ⟨?_, ?_, ?_, ?_, ?_, ?_, ?_, ?_, ?_, trivial⟩
          · intro σ w' hR hd
            simp only [fill, Nat.reduceAdd, if_true, Bool.false_eq_true, if_false]
            clear hd
            go_wp2
            exact ⟨Fr.refl _ _, rfl⟩
          · intro σ w' hR hd
            simp only [fill, Nat.reduceAdd, if_true, Bool.false_eq_true, if_false]
            obtain h42 : σ 42 = _ := hd 0 (by decide)
            rw [h42]
            clear h42
            clear hd
            go_wp2
            exact ⟨Fr.refl _ _, rfl⟩
          · intro σ w' hR hd
            simp only [fill, Nat.reduceAdd, if_true, Bool.false_eq_true, if_false]
            obtain h43 : σ 43 = _ := hd 1 (by decide)
            rw [h43]
            clear h43
            clear hd
            go_wp2
            exact ⟨Fr.refl _ _, trivial⟩
          · intro σ w' hR hd
            simp only [fill, Nat.reduceAdd, if_true, Bool.false_eq_true, if_false]
            obtain h43 : σ 43 = _ := hd 1 (by decide)
            rw [h43]
            clear h43
            clear hd
            go_wp2
            exact ⟨Fr.refl _ _, trivial⟩
          · intro σ w' hR hd
            simp only [fill, Nat.reduceAdd, if_true, Bool.false_eq_true, if_false]
            obtain h43 : σ 43 = _ := hd 1 (by decide)
            rw [h43]
            clear h43
            clear hd
            go_wp2
            exact ⟨Fr.refl _ _, trivial⟩
          · intro σ w' hR hd
            simp only [fill, Nat.reduceAdd, if_true, Bool.false_eq_true, if_false]
            obtain h43 : σ 43 = _ := hd 1 (by decide)
            rw [h43]
            clear h43
            clear hd
            go_wp2
            exact ⟨Fr.refl _ _, trivial⟩
          · intro σ w' hR hd
            simp only [fill, Nat.reduceAdd, if_true, Bool.false_eq_true, if_false]
            obtain h43 : σ 43 = _ := hd 1 (by decide)
            rw [h43]
            clear h43
            clear hd
            go_wp2
            exact ⟨Fr.refl _ _, trivial⟩
          · intro σ w' hR hd
            simp only [fill, Nat.reduceAdd, if_true, Bool.false_eq_true, if_false]
            obtain h43 : σ 43 = _ := hd 1 (by decide)
            rw [h43]
            clear h43
            clear hd
            go_wp2
            exact ⟨Fr.refl _ _, trivial⟩
          · intro σ w' hR hd
            simp only [fill, Nat.reduceAdd, if_true, Bool.false_eq_true, if_false]
            obtain h43 : σ 43 = _ := hd 1 (by decide)
            rw [h43]
            clear h43
            clear hd
            go_wp2
            exact ⟨Fr.refl _ _, rfl⟩
        · intro σ w3 hR hG
          obtain h50 : σ 50 = _ := hG 8 (by decide)
          simp only [fill, Nat.reduceAdd, if_true, Bool.false_eq_true, if_false, List.drop_succ_cons, List.drop_zero, h50]
          clear h50
          clear hG
          have HF1 := Hd.mk ((Fr.drew (Fr.refl [] _)).trans hR)
          clear hR
          rcases Nat.eq_zero_or_pos k with hk0 | hk0
          · have HK0 := Hd.mk hk0
            clear hk0
            go_wp2_with fail
            refine wp_region_gs { R := Fr [], R1 := Fr [], gs := [Is (.pointer (some ⟨p, 0, none⟩)), Is (.slice (some ⟨g, off, none⟩) ks.length c), Is (.int .i64 k), Is (.pointer (some ⟨g, off + k * 3, none⟩)), Is (.agg #[.string x.name, .int .u16 x.ty, .int .u16 x.cl]), Is (.bool false), Is (.bool false), Is (.int .i64 k), Is (.bool false), Is (.bool false), No, No, No, No, No, No, No, No, No, No, No, Is (.bool false), Is (.bool false)], ds := [some 51, some 52, some 53, some 54, some 55, some 56, some 57, some 58, some 59, some 60, some 61, some 62, some 63, some 64, some 65, some 66, some 67, some 68, some 69, some 70, some 71, some 72, some 73], fl := [false, false, false, false, false, false, false, false, false, false, false, false, false, false, false, false, false, false, false, false, false, false, false], hs := [], hd := [] } [false, false, false, false, false, false, false, false, false, false, false, false, false, false, false, false, false, false, false, false, false, false, false, false, false, false, false, false, false, false, false, false, false, false, false, false, false, false, false, false, false, false, false, false, false, false, false, false, false, false, false, true, true, true, true, true, true, true, true, true, true, true, true, true, true, true, true, true, true, true, true, true, true, true, false, false, false, false, false, false, false, false, false, false, false, false, false, false, false, false, false, false, false, false, false, false, false, false, false, false, false, false, false, false, false, false, false, false, false, false, false, false, false, false, false, false, false, false, false] (by kernel_rfl) _ (by kernel_rfl) (by kernel_rfl) (by kernel_rfl) (by kernel_rfl) rfl [] (fun _ _ _ h1 h2 => h1.trans h2) (fun _ _ h => h) (staI (staI (staI (staI (staI (staI (staI (staI (staI (staI (staN (staN (staN (staN (staN (staN (staN (staN (staN (staN (staN (staI (staI sta0))))))))))))))))))))))) sth0 (fun _ _ h => h.size) _ (Fr.refl _ _) trivial ?_ ?_
            · refine ⟨?_, ?_, ?_, ?_, ?_, ?_, ?_, ?_, ?_, ?_, ?_, ?_, ?_, ?_, ?_, ?_, ?_, ?_, ?_, ?_, ?_, ?_, ?_, trivial⟩
              · intro σ w' hR hd
                simp only [fill, Nat.reduceAdd, if_true, Bool.false_eq_true, if_false]
                clear hd
                go_wp2
                exact ⟨Fr.refl _ _, rfl⟩
              · intro σ w' hR hd
                simp only [fill, Nat.reduceAdd, if_true, Bool.false_eq_true, if_false]
                clear hd
                go_wp2
                exact ⟨Fr.refl _ _, rfl⟩
              · intro σ w' hR hd
                simp only [fill, Nat.reduceAdd, if_true, Bool.false_eq_true, if_false]
                clear hd
                go_wp2
                exact ⟨Fr.refl _ _, rfl⟩
              · intro σ w' hR hd
                simp only [fill, Nat.reduceAdd, if_true, Bool.false_eq_true, if_false]
                obtain h52 : σ 52 = _ := hd 1 (by decide)
                obtain h53 : σ 53 = _ := hd 2 (by decide)
                rw [h52, h53]
                clear h52 h53
                clear hd
                go_wp2
                exact ⟨Fr.refl _ _, rfl⟩
              · intro σ w' hR hd
                simp only [fill, Nat.reduceAdd, if_true, Bool.false_eq_true, if_false]
                obtain h54 : σ 54 = _ := hd 3 (by decide)
                rw [h54]
                clear h54
                clear hd
                have hfr := HF1.out.trans ((Fr.drew (Fr.refl [] _)).trans hR)
                obtain ⟨cx0, cx1, cx2⟩ := HCX.out
                have dx0 := hfr.cell cx0 (by simp)
                have dx1 := hfr.cell cx1 (by simp)
                have dx2 := hfr.cell cx2 (by simp)
                clear cx0 cx1 cx2
                go_wp2
                exact ⟨Fr.refl _ _, rfl⟩
              · intro σ w' hR hd
                simp only [fill, Nat.reduceAdd, if_true, Bool.false_eq_true, if_false]
                obtain h51 : σ 51 = _ := hd 0 (by decide)
                obtain h55 : σ 55 = _ := hd 4 (by decide)
                rw [h51, h55]
                clear h51 h55
                clear hd
                have hfr := HF1.out.trans ((Fr.drew (Fr.refl [] _)).trans hR)
                have hm := HM.out.fr hfr (by simp) (by simp)
                go_wp2_with fail
                refine (has_calls hm x).mono ?_
                rintro e w4 ⟨rfl, hf⟩
                rw [HGO.out]
                have HFF := Hd.mk hf
                clear hf
                go_wp2
                exact ⟨HFF.out, rfl⟩
              · intro σ w' hR hd
                simp only [fill, Nat.reduceAdd, if_true, Bool.false_eq_true, if_false]
                obtain h56 : σ 56 = _ := hd 5 (by decide)
                rw [h56]
                clear h56
                clear hd
                go_wp2
                exact ⟨Fr.refl _ _, rfl⟩
              · intro σ w' hR hd
                simp only [fill, Nat.reduceAdd, if_true, Bool.false_eq_true, if_false]
                obtain h57 : σ 57 = _ := hd 6 (by decide)
                rw [h57]
                clear h57
                clear hd
                go_wp2
                exact ⟨Fr.refl _ _, rfl⟩
              · intro σ w' hR hd
                simp only [fill, Nat.reduceAdd, if_true, Bool.false_eq_true, if_false]
                obtain h57 : σ 57 = _ := hd 6 (by decide)
                obtain h58 : σ 58 = _ := hd 7 (by decide)
                rw [h57, h58]
                clear h57 h58
                clear hd
                have hk0 := HK0.out
                go_wp2
                exact ⟨Fr.refl _ _, rfl⟩
              · intro σ w' hR hd
                simp only [fill, Nat.reduceAdd, if_true, Bool.false_eq_true, if_false]
                obtain h57 : σ 57 = _ := hd 6 (by decide)
                obtain h59 : σ 59 = _ := hd 8 (by decide)
                rw [h57, h59]
                clear h57 h59
                clear hd
                go_wp2
                exact ⟨Fr.refl _ _, rfl⟩
              · intro σ w' hR hd
                simp only [fill, Nat.reduceAdd, if_true, Bool.false_eq_true, if_false]
                obtain h60 : σ 60 = _ := hd 9 (by decide)
                rw [h60]
                clear h60
                clear hd
                go_wp2
                exact ⟨Fr.refl _ _, trivial⟩
              · intro σ w' hR hd
                simp only [fill, Nat.reduceAdd, if_true, Bool.false_eq_true, if_false]
                obtain h60 : σ 60 = _ := hd 9 (by decide)
                rw [h60]
                clear h60
                clear hd
                go_wp2
                exact ⟨Fr.refl _ _, trivial⟩
              · intro σ w' hR hd
                simp only [fill, Nat.reduceAdd, if_true, Bool.false_eq_true, if_false]
                obtain h60 : σ 60 = _ := hd 9 (by decide)
                rw [h60]
                clear h60
                clear hd
                go_wp2
                exact ⟨Fr.refl _ _, trivial⟩
              · intro σ w' hR hd
                simp only [fill, Nat.reduceAdd, if_true, Bool.false_eq_true, if_false]
                obtain h60 : σ 60 = _ := hd 9 (by decide)
                rw [h60]
                clear h60
                clear hd
                go_wp2
                exact ⟨Fr.refl _ _, trivial⟩
              · intro σ w' hR hd
                simp only [fill, Nat.reduceAdd, if_true, Bool.false_eq_true, if_false]
                obtain h60 : σ 60 = _ := hd 9 (by decide)
                rw [h60]
                clear h60
                clear hd
                go_wp2
                exact ⟨Fr.refl _ _, trivial⟩
              · intro σ w' hR hd
                simp only [fill, Nat.reduceAdd, if_true, Bool.false_eq_true, if_false]
                obtain h60 : σ 60 = _ := hd 9 (by decide)
                rw [h60]
                clear h60
                clear hd
                go_wp2
                exact ⟨Fr.refl _ _, trivial⟩
              · intro σ w' hR hd
                simp only [fill, Nat.reduceAdd, if_true, Bool.false_eq_true, if_false]
                obtain h60 : σ 60 = _ := hd 9 (by decide)
                rw [h60]
                clear h60
                clear hd
                go_wp2
                exact ⟨Fr.refl _ _, trivial⟩
              · intro σ w' hR hd
                simp only [fill, Nat.reduceAdd, if_true, Bool.false_eq_true, if_false]
                obtain h60 : σ 60 = _ := hd 9 (by decide)
                rw [h60]
                clear h60
                clear hd
                go_wp2
                exact ⟨Fr.refl _ _, trivial⟩
              · intro σ w' hR hd
                simp only [fill, Nat.reduceAdd, if_true, Bool.false_eq_true, if_false]
                obtain h60 : σ 60 = _ := hd 9 (by decide)
                rw [h60]
                clear h60
                clear hd
                go_wp2
                exact ⟨Fr.refl _ _, trivial⟩
              · intro σ w' hR hd
                simp only [fill, Nat.reduceAdd, if_true, Bool.false_eq_true, if_false]
                obtain h60 : σ 60 = _ := hd 9 (by decide)
                rw [h60]
                clear h60
                clear hd
                go_wp2
                exact ⟨Fr.refl _ _, trivial⟩
              · intro σ w' hR hd
                simp only [fill, Nat.reduceAdd, if_true, Bool.false_eq_true, if_false]
                obtain h60 : σ 60 = _ := hd 9 (by decide)
                rw [h60]
                clear h60
                clear hd
                go_wp2
                exact ⟨Fr.refl _ _, trivial⟩
              · intro σ w' hR hd
                simp only [fill, Nat.reduceAdd, if_true, Bool.false_eq_true, if_false]
                obtain h57 : σ 57 = _ := hd 6 (by decide)
                obtain h60 : σ 60 = _ := hd 9 (by decide)
                rw [h57, h60]
                clear h57 h60
                clear hd
                go_wp2
                exact ⟨Fr.refl _ _, rfl⟩
              · intro σ w' hR hd
                simp only [fill, Nat.reduceAdd, if_true, Bool.false_eq_true, if_false]
                obtain h57 : σ 57 = _ := hd 6 (by decide)
                obtain h72 : σ 72 = _ := hd 21 (by decide)
                rw [h57, h72]
                clear h57 h72
                clear hd
                go_wp2
                exact ⟨Fr.refl _ _, rfl⟩
            · intro σ w3 hR hG hH
              obtain h73 : σ 73 = _ := hG 22 (by decide)
              simp only [fill, Nat.reduceAdd, if_true, Bool.false_eq_true, if_false, h73]
              clear h73
              clear hG
              have HF2 := Hd.mk (HF0.out.trans (HF1.out.trans ((Fr.drew (Fr.refl [] _)).trans hR)))
              clear hR hH
              go_wp2
              go_roundw
              case rel => exact ⟨k + 1, by omega, by go_num, by rw [HNX.out]; rfl, HF2.out⟩
              case measure => simp [intOf]; omega
          · obtain ⟨m, hm⟩ : ∃ m, k = m + 1 := ⟨k - 1, by omega⟩
            have hml : m < ks.length := by omega
            have hcy := fun j u hu => HF0.out.cell (HCC.out m hml j u hu) (by simp)
            have hle := List.pairwise_iff_getElem.1 HRI.out m k hml hlt (by omega)
            obtain ⟨y, hy⟩ : ∃ y, ks[m] = y := ⟨_, rfl⟩
            rw [hy] at hcy hle
            rw [HX.out] at hle
            have HLE := Hd.mk hle
            have HCY : Hd (wr.cell? ⟨g, off + m * 3, none⟩ = some (.string y.name) ∧ wr.cell? ⟨g, off + m * 3 + 1, none⟩ = some (.int .u16 y.ty) ∧ wr.cell? ⟨g, off + m * 3 + 2, none⟩ = some (.int .u16 y.cl)) := Hd.mk ⟨hcy 0 _ rfl, hcy 1 _ rfl, hcy 2 _ rfl⟩
            clear hcy hle hy
            have HK0 := Hd.mk hk0
            have HKM := Hd.mk hm
            clear hk0 hm
            go_wp2_with fail
            refine wp_region_gs { R := Fr [], R1 := Fr [], gs := [Is (.pointer (some ⟨p, 0, none⟩)), Is (.slice (some ⟨g, off, none⟩) ks.length c), Is (.int .i64 k), Is (.pointer (some ⟨g, off + k * 3, none⟩)), Is (.agg #[.string x.name, .int .u16 x.ty, .int .u16 x.cl]), Is (.bool false), Is (.bool false), Is (.int .i64 k), Is (.bool true), Is (.bool true), Is (.slice (some ⟨g, off, none⟩) ks.length c), Is (.int .i64 k), Is (.int .i64 m), Is (.pointer (some ⟨g, off + m * 3, none⟩)), Is (.agg #[.string y.name, .int .u16 y.ty, .int .u16 y.cl]), Is (.slice (some ⟨g, off, none⟩) ks.length c), Is (.int .i64 k), Is (.pointer (some ⟨g, off + k * 3, none⟩)), Is (.agg #[.string x.name, .int .u16 x.ty, .int .u16 x.cl]), Is (.bool true), Is (.bool false), Is (.bool false), Is (.bool false)], ds := [some 51, some 52, some 53, some 54, some 55, some 56, some 57, some 58, some 59, some 60, some 61, some 62, some 63, some 64, some 65, some 66, some 67, some 68, some 69, some 70, some 71, some 72, some 73], fl := [false, false, false, false, false, false, false, false, false, false, false, false, false, false, false, false, false, false, false, false, false, false, false], hs := [], hd := [] } [false, false, false, false, false, false, false, false, false, false, false, false, false, false, false, false, false, false, false, false, false, false, false, false, false, false, false, false, false, false, false, false, false, false, false, false, false, false, false, false, false, false, false, false, false, false, false, false, false, false, false, true, true, true, true, true, true, true, true, true, true, true, true, true, true, true, true, true, true, true, true, true, true, true, false, false, false, false, false, false, false, false, false, false, false, false, false, false, false, false, false, false, false, false, false, false, false, false, false, false, false, false, false, false, false, false, false, false, false, false, false, false, false, false, false, false, false, false, false] (by kernel_rfl) _ (by kernel_rfl) (by kernel_rfl) (by kernel_rfl) (by kernel_rfl) rfl [] (fun _ _ _ h1 h2 => h1.trans h2) (fun _ _ h => h) (staI (staI (staI (staI (staI (staI (staI (staI (staI (staI (staI (staI (staI (staI (staI (staI (staI (staI (staI (staI (staI (staI (staI sta0))))))))))))))))))))))) sth0 (fun _ _ h => h.size) _ (Fr.refl _ _) trivial ?_ ?_
            · refine ⟨?_, ?_, ?_, ?_, ?_, ?_, ?_, ?_, ?_, ?_, ?_, ?_, ?_, ?_, ?_, ?_, ?_, ?_, ?_, ?_, ?_, ?_, ?_, trivial⟩
              · intro σ w' hR hd
                simp only [fill, Nat.reduceAdd, if_true, Bool.false_eq_true, if_false]
                clear hd
                go_wp2
                exact ⟨Fr.refl _ _, rfl⟩
              · intro σ w' hR hd
                simp only [fill, Nat.reduceAdd, if_true, Bool.false_eq_true, if_false]
                clear hd
                go_wp2
                exact ⟨Fr.refl _ _, rfl⟩
              · intro σ w' hR hd
                simp only [fill, Nat.reduceAdd, if_true, Bool.false_eq_true, if_false]
                clear hd
                go_wp2
                exact ⟨Fr.refl _ _, rfl⟩
              · intro σ w' hR hd
                simp only [fill, Nat.reduceAdd, if_true, Bool.false_eq_true, if_false]
                obtain h52 : σ 52 = _ := hd 1 (by decide)
                obtain h53 : σ 53 = _ := hd 2 (by decide)
                rw [h52, h53]
                clear h52 h53
                clear hd
                go_wp2
                exact ⟨Fr.refl _ _, rfl⟩
              · intro σ w' hR hd
                simp only [fill, Nat.reduceAdd, if_true, Bool.false_eq_true, if_false]
                obtain h54 : σ 54 = _ := hd 3 (by decide)
                rw [h54]
                clear h54
                clear hd
                have hfr := HF1.out.trans ((Fr.drew (Fr.refl [] _)).trans hR)
                obtain ⟨cx0, cx1, cx2⟩ := HCX.out
                have dx0 := hfr.cell cx0 (by simp)
                have dx1 := hfr.cell cx1 (by simp)
                have dx2 := hfr.cell cx2 (by simp)
                clear cx0 cx1 cx2
                go_wp2
                exact ⟨Fr.refl _ _, rfl⟩
              · intro σ w' hR hd
                simp only [fill, Nat.reduceAdd, if_true, Bool.false_eq_true, if_false]
                obtain h51 : σ 51 = _ := hd 0 (by decide)
                obtain h55 : σ 55 = _ := hd 4 (by decide)
                rw [h51, h55]
                clear h51 h55
                clear hd
                have hfr := HF1.out.trans ((Fr.drew (Fr.refl [] _)).trans hR)
                have hm := HM.out.fr hfr (by simp) (by simp)
                go_wp2_with fail
                refine (has_calls hm x).mono ?_
                rintro e w4 ⟨rfl, hf⟩
                rw [HGO.out]
                have HFF := Hd.mk hf
                clear hf
                go_wp2
                exact ⟨HFF.out, rfl⟩
              · intro σ w' hR hd
                simp only [fill, Nat.reduceAdd, if_true, Bool.false_eq_true, if_false]
                obtain h56 : σ 56 = _ := hd 5 (by decide)
                rw [h56]
                clear h56
                clear hd
                go_wp2
                exact ⟨Fr.refl _ _, rfl⟩
              · intro σ w' hR hd
                simp only [fill, Nat.reduceAdd, if_true, Bool.false_eq_true, if_false]
                obtain h57 : σ 57 = _ := hd 6 (by decide)
                rw [h57]
                clear h57
                clear hd
                go_wp2
                exact ⟨Fr.refl _ _, rfl⟩
              · intro σ w' hR hd
                simp only [fill, Nat.reduceAdd, if_true, Bool.false_eq_true, if_false]
                obtain h57 : σ 57 = _ := hd 6 (by decide)
                obtain h58 : σ 58 = _ := hd 7 (by decide)
                rw [h57, h58]
                clear h57 h58
                clear hd
                have hk0 := HK0.out
                go_wp2
                exact ⟨Fr.refl _ _, rfl⟩
              · intro σ w' hR hd
                simp only [fill, Nat.reduceAdd, if_true, Bool.false_eq_true, if_false]
                obtain h57 : σ 57 = _ := hd 6 (by decide)
                obtain h59 : σ 59 = _ := hd 8 (by decide)
                rw [h57, h59]
                clear h57 h59
                clear hd
                go_wp2
                exact ⟨Fr.refl _ _, rfl⟩
              · intro σ w' hR hd
                simp only [fill, Nat.reduceAdd, if_true, Bool.false_eq_true, if_false]
                obtain h60 : σ 60 = _ := hd 9 (by decide)
                rw [h60]
                clear h60
                clear hd
                go_wp2
                exact ⟨Fr.refl _ _, rfl⟩
              · intro σ w' hR hd
                simp only [fill, Nat.reduceAdd, if_true, Bool.false_eq_true, if_false]
                obtain h60 : σ 60 = _ := hd 9 (by decide)
                rw [h60]
                clear h60
                clear hd
                go_wp2
                exact ⟨Fr.refl _ _, rfl⟩
              · intro σ w' hR hd
                simp only [fill, Nat.reduceAdd, if_true, Bool.false_eq_true, if_false]
                obtain h60 : σ 60 = _ := hd 9 (by decide)
                obtain h62 : σ 62 = _ := hd 11 (by decide)
                rw [h60, h62]
                clear h60 h62
                clear hd
                go_wp2
                exact ⟨Fr.refl _ _, by have hm := HKM.out; show Value.int _ _ = Value.int _ _; congr 1; omega⟩
              · intro σ w' hR hd
                simp only [fill, Nat.reduceAdd, if_true, Bool.false_eq_true, if_false]
                obtain h60 : σ 60 = _ := hd 9 (by decide)
                obtain h61 : σ 61 = _ := hd 10 (by decide)
                obtain h63 : σ 63 = _ := hd 12 (by decide)
                rw [h60, h61, h63]
                clear h60 h61 h63
                clear hd
                go_wp2
                exact ⟨Fr.refl _ _, rfl⟩
              · intro σ w' hR hd
                simp only [fill, Nat.reduceAdd, if_true, Bool.false_eq_true, if_false]
                obtain h60 : σ 60 = _ := hd 9 (by decide)
                obtain h64 : σ 64 = _ := hd 13 (by decide)
                rw [h60, h64]
                clear h60 h64
                clear hd
                have hfr := HF1.out.trans ((Fr.drew (Fr.refl [] _)).trans hR)
                obtain ⟨cy0, cy1, cy2⟩ := HCY.out
                have dy0 := hfr.cell cy0 (by simp)
                have dy1 := hfr.cell cy1 (by simp)
                have dy2 := hfr.cell cy2 (by simp)
                clear cy0 cy1 cy2
                go_wp2
                exact ⟨Fr.refl _ _, rfl⟩
              · intro σ w' hR hd
                simp only [fill, Nat.reduceAdd, if_true, Bool.false_eq_true, if_false]
                obtain h60 : σ 60 = _ := hd 9 (by decide)
                rw [h60]
                clear h60
                clear hd
                go_wp2
                exact ⟨Fr.refl _ _, rfl⟩
              · intro σ w' hR hd
                simp only [fill, Nat.reduceAdd, if_true, Bool.false_eq_true, if_false]
                obtain h60 : σ 60 = _ := hd 9 (by decide)
                rw [h60]
                clear h60
                clear hd
                go_wp2
                exact ⟨Fr.refl _ _, rfl⟩
              · intro σ w' hR hd
                simp only [fill, Nat.reduceAdd, if_true, Bool.false_eq_true, if_false]
                obtain h60 : σ 60 = _ := hd 9 (by decide)
                obtain h66 : σ 66 = _ := hd 15 (by decide)
                obtain h67 : σ 67 = _ := hd 16 (by decide)
                rw [h60, h66, h67]
                clear h60 h66 h67
                clear hd
                go_wp2
                exact ⟨Fr.refl _ _, rfl⟩
              · intro σ w' hR hd
                simp only [fill, Nat.reduceAdd, if_true, Bool.false_eq_true, if_false]
                obtain h60 : σ 60 = _ := hd 9 (by decide)
                obtain h68 : σ 68 = _ := hd 17 (by decide)
                rw [h60, h68]
                clear h60 h68
                clear hd
                have hfr := HF1.out.trans ((Fr.drew (Fr.refl [] _)).trans hR)
                obtain ⟨cx0, cx1, cx2⟩ := HCX.out
                have dx0 := hfr.cell cx0 (by simp)
                have dx1 := hfr.cell cx1 (by simp)
                have dx2 := hfr.cell cx2 (by simp)
                clear cx0 cx1 cx2
                go_wp2
                exact ⟨Fr.refl _ _, rfl⟩
              · intro σ w' hR hd
                simp only [fill, Nat.reduceAdd, if_true, Bool.false_eq_true, if_false]
                obtain h60 : σ 60 = _ := hd 9 (by decide)
                obtain h65 : σ 65 = _ := hd 14 (by decide)
                obtain h69 : σ 69 = _ := hd 18 (by decide)
                rw [h60, h65, h69]
                clear h60 h65 h69
                clear hd
                go_wp2_with fail
                refine (derrickref13_Less.calls _ _ _ _ _ _ true _ (by rw [less_f, HLE.out])).mono ?_
                rintro e w4 ⟨rfl, hb⟩
                have HFF := Hd.mk (fr_below hb)
                clear hb
                go_wp2
                exact ⟨HFF.out, rfl⟩
              · intro σ w' hR hd
                simp only [fill, Nat.reduceAdd, if_true, Bool.false_eq_true, if_false]
                obtain h60 : σ 60 = _ := hd 9 (by decide)
                obtain h70 : σ 70 = _ := hd 19 (by decide)
                rw [h60, h70]
                clear h60 h70
                clear hd
                go_wp2
                exact ⟨Fr.refl _ _, rfl⟩
              · intro σ w' hR hd
                simp only [fill, Nat.reduceAdd, if_true, Bool.false_eq_true, if_false]
                obtain h57 : σ 57 = _ := hd 6 (by decide)
                obtain h60 : σ 60 = _ := hd 9 (by decide)
                obtain h71 : σ 71 = _ := hd 20 (by decide)
                rw [h57, h60, h71]
                clear h57 h60 h71
                clear hd
                go_wp2
                exact ⟨Fr.refl _ _, rfl⟩
              · intro σ w' hR hd
                simp only [fill, Nat.reduceAdd, if_true, Bool.false_eq_true, if_false]
                obtain h57 : σ 57 = _ := hd 6 (by decide)
                obtain h72 : σ 72 = _ := hd 21 (by decide)
                rw [h57, h72]
                clear h57 h72
                clear hd
                go_wp2
                exact ⟨Fr.refl _ _, rfl⟩
            · intro σ w3 hR hG hH
              obtain h73 : σ 73 = _ := hG 22 (by decide)
              simp only [fill, Nat.reduceAdd, if_true, Bool.false_eq_true, if_false, h73]
              clear h73
              clear hG
              have HF2 := Hd.mk (HF0.out.trans (HF1.out.trans ((Fr.drew (Fr.refl [] _)).trans hR)))
              clear hR hH
              go_wp2
              go_roundw
              case rel => exact ⟨k + 1, by omega, by go_num, by rw [HNX.out]; rfl, HF2.out⟩
              case measure => simp [intOf]; omega
    · have hall : ks.take k = ks := List.take_of_length_le (by omega)
      rw [hall, HTO2.out]
      have hM := HM.out.fr hFr (by simp) (by simp)
      have hR := fun x hx => (HRL.out x hx).step hFr (by simp)
      have hq := HQ.out.fr hFr (by simp)
      have hF := HF.out.trans hFr
      clear hFr HF HQ HM hall
      rw [← liveX_ents] at hM
      obtain ⟨c1_0, c1_1, c1_2, c1_f⟩ := hq.cells3
      go_wp2_with fail
      clear c1_0 c1_1 c1_2 c1_f
      refine (lookx_calls hM hR q now).mono ?_
      rintro r wl2 ⟨hf, A2, c2, rfl, hl2, hK2⟩
      obtain ⟨s2, es2⟩ : ∃ s, lookS (liveX X now) q now = s := ⟨_, rfl⟩
      obtain ⟨i2, ei2⟩ : ∃ i, (lookX (liveX X now) q now).isSome = i := ⟨_, rfl⟩
      rw [es2] at hl2 hK2
      rw [es2, ei2]
      have ES2 := Hd.mk es2
      have EI2 := Hd.mk ei2
      clear es2 ei2
      have hF_1 := hF.trans hf
      have hq_1 := hq.fr hf (by simp)
      have hM_1 := hM.fr hf (by simp) (by simp)
      have hR_1 := fun x hx => (hR x hx).step hf (by simp)
      clear hF hq hM hR
      clear hf
      have hi2 : i1 = i2 := by rw [← EI1.out, ← EI2.out, lookX_live HA.out]
      subst hi2
      obtain ⟨c1_0, c1_1, c1_2, c1_f⟩ := hq_1.cells3
      go_upto_region 15 with (fail)
      clear c1_0 c1_1 c1_2 c1_f
      refine wp_name ?_
      intro w_2 hw_
      have hf_w_2 := alloc_of hw_
      have hx := blk_of (T := 35) (c := [.string s2.f0.f0, .int .u16 s2.f0.f1, .int .u16 s2.f0.f2, .slice A2 s2.f1.length c2, .int .i64 s2.f2, .int .i64 s2.f3, .int .u64 s2.f4]) hw_
      clear hw_
      have hF_2 := hF_1.trans hf_w_2
      have hq_2 := hq_1.fr hf_w_2 (by simp)
      have hM_2 := hM_1.fr hf_w_2 (by simp) (by simp)
      have hR_2 := fun x hx => (hR_1 x hx).step hf_w_2 (by simp)
      have hK2_1 := Kd.F_step hK2 fun k hk hlt => hf_w_2.block k hlt (by simp)
      clear hF_1 hq_1 hM_1 hR_1 hK2
      clear hf_w_2
      have hxb := blk_ne_map hM_2 hx (by decide)
      obtain ⟨c1_0, c1_1, c1_2, c1_f⟩ := hq_2.cells3
      obtain ⟨c5_0, c5_1, c5_2, c5_3, c5_4, c5_5, c5_6, c5_f⟩ := hx.cells7
      go_wp2_with fail
      clear c1_0 c1_1 c1_2 c1_f c5_0 c5_1 c5_2 c5_3 c5_4 c5_5 c5_6 c5_f
      refine (len_calls hM_2).mono ?_
      rintro r wl ⟨rfl, rfl⟩
      rw [liveX_ents, HNK.out]
      have EH : Hd ((findE (ents (liveX X now)) q).isSome = i1) := Hd.mk (by rw [liveX_ents, liveL_has HA.out, ← lookX_B, EI1.out])
      have hke : k = ks.length := by omega
      rcases H with _ | _ <;> rcases i1 with _ | _
      · simp only [Bool.not_true, Bool.not_false, Bool.and_true, Bool.and_false, Bool.true_and, Bool.false_and]
        obtain ⟨c1_0, c1_1, c1_2, c1_f⟩ := hq_2.cells3
        obtain ⟨c5_0, c5_1, c5_2, c5_3, c5_4, c5_5, c5_6, c5_f⟩ := hx.cells7
        go_wp2_with fail
        clear c1_0 c1_1 c1_2 c1_f c5_0 c5_1 c5_2 c5_3 c5_4 c5_5 c5_6 c5_f
        refine (has_calls hM_2 q).mono ?_
        rintro r wh2 ⟨rfl, hf⟩
        have hF_3 := hF_2.trans hf
        have hq_3 := hq_2.fr hf (by simp)
        have hM_3 := hM_2.fr hf (by simp) (by simp)
        have hR_3 := fun x hx => (hR_2 x hx).step hf (by simp)
        have hK2_2 := Kd.F_step hK2_1 fun k hk hlt => hf.block k hlt (by simp)
        have hx_1 := hx.fr hf (by simp)
        clear hF_2 hq_2 hM_2 hR_2 hK2_1 hx
        clear hf
        rw [EH.out]
        obtain ⟨c1_0, c1_1, c1_2, c1_f⟩ := hq_3.cells3
        obtain ⟨c5_0, c5_1, c5_2, c5_3, c5_4, c5_5, c5_6, c5_f⟩ := hx_1.cells7
        go_wp2_with fail
        clear c1_0 c1_1 c1_2 c1_f c5_0 c5_1 c5_2 c5_3 c5_4 c5_5 c5_6 c5_f
        refine (due_calls hM_3 (by rw [liveX_ents]; have := HNK.out; omega) now).mono ?_
        rintro r wd2 ⟨vd2, rfl, -, hv2, hMi, hf⟩
        obtain rfl := hv2 (by rw [liveX_ents]; exact due_none _ _)
        have hF_4 := hF_3.weak hf (by simpa using hbw)
        have hq_4 := hq_3.fr hf hqb
        have hR_4 := fun x hx => (hR_3 x hx).frb hf
        have hK2_3 := Kd.F_step hK2_2 fun k hk hlt => hf.block k hlt (by simpa using hk.2)
        have hx_2 := hx_1.fr hf hxb
        clear hF_3 hq_3 hM_3 hR_3 hK2_2 hx_1
        clear hf
        have HF := Hd.mk hF_4
        clear hF_4
        go_wp2
        go_ret
        exact ⟨rfl, HF.out⟩
      · exfalso
        have h1 := HH.out
        have h2 := EI1.out
        rw [lookX_B] at h2
        unfold lookB at h2
        cases h3 : findE (ents X) q <;> rw [h3] at h1 h2 <;> simp at h1 h2
      · simp only [Bool.not_true, Bool.not_false, Bool.and_true, Bool.and_false, Bool.true_and, Bool.false_and]
        obtain ⟨c1_0, c1_1, c1_2, c1_f⟩ := hq_2.cells3
        obtain ⟨c5_0, c5_1, c5_2, c5_3, c5_4, c5_5, c5_6, c5_f⟩ := hx.cells7
        go_wp2_with fail
        clear c1_0 c1_1 c1_2 c1_f c5_0 c5_1 c5_2 c5_3 c5_4 c5_5 c5_6 c5_f
        refine (has_calls hM_2 q).mono ?_
        rintro r wh2 ⟨rfl, hf⟩
        have hF_3 := hF_2.trans hf
        have hq_3 := hq_2.fr hf (by simp)
        have hM_3 := hM_2.fr hf (by simp) (by simp)
        have hR_3 := fun x hx => (hR_2 x hx).step hf (by simp)
        have hK2_2 := Kd.F_step hK2_1 fun k hk hlt => hf.block k hlt (by simp)
        have hx_1 := hx.fr hf (by simp)
        clear hF_2 hq_2 hM_2 hR_2 hK2_1 hx
        clear hf
        rw [EH.out]
        obtain ⟨c1_0, c1_1, c1_2, c1_f⟩ := hq_3.cells3
        obtain ⟨c5_0, c5_1, c5_2, c5_3, c5_4, c5_5, c5_6, c5_f⟩ := hx_1.cells7
        go_wp2_with fail
        clear c1_0 c1_1 c1_2 c1_f c5_0 c5_1 c5_2 c5_3 c5_4 c5_5 c5_6 c5_f
        refine (due_calls hM_3 (by rw [liveX_ents]; have := HNK.out; omega) now).mono ?_
        rintro r wd2 ⟨vd2, rfl, -, hv2, hMi, hf⟩
        obtain rfl := hv2 (by rw [liveX_ents]; exact due_none _ _)
        have hF_4 := hF_3.weak hf (by simpa using hbw)
        have hq_4 := hq_3.fr hf hqb
        have hR_4 := fun x hx => (hR_3 x hx).frb hf
        have hK2_3 := Kd.F_step hK2_2 fun k hk hlt => hf.block k hlt (by simpa using hk.2)
        have hx_2 := hx_1.fr hf hxb
        clear hF_3 hq_3 hM_3 hR_3 hK2_2 hx_1
        clear hf
        have HF := Hd.mk hF_4
        clear hF_4
        go_wp2
        go_ret
        exact ⟨rfl, HF.out⟩
      · simp only [Bool.not_true, Bool.not_false, Bool.and_true, Bool.and_false, Bool.true_and, Bool.false_and]
        obtain ⟨c1_0, c1_1, c1_2, c1_f⟩ := hq_2.cells3
        obtain ⟨c5_0, c5_1, c5_2, c5_3, c5_4, c5_5, c5_6, c5_f⟩ := hx.cells7
        go_wp2_with fail
        clear c1_0 c1_1 c1_2 c1_f c5_0 c5_1 c5_2 c5_3 c5_4 c5_5 c5_6 c5_f
        refine (has_calls hM_2 q).mono ?_
        rintro r wh2 ⟨rfl, hf⟩
        have hF_3 := hF_2.trans hf
        have hq_3 := hq_2.fr hf (by simp)
        have hM_3 := hM_2.fr hf (by simp) (by simp)
        have hR_3 := fun x hx => (hR_2 x hx).step hf (by simp)
        have hK2_2 := Kd.F_step hK2_1 fun k hk hlt => hf.block k hlt (by simp)
        have hx_1 := hx.fr hf (by simp)
        clear hF_2 hq_2 hM_2 hR_2 hK2_1 hx
        clear hf
        rw [EH.out]
        obtain ⟨c1_0, c1_1, c1_2, c1_f⟩ := hq_3.cells3
        obtain ⟨c5_0, c5_1, c5_2, c5_3, c5_4, c5_5, c5_6, c5_f⟩ := hx_1.cells7
        go_wp2_with fail
        clear c1_0 c1_1 c1_2 c1_f c5_0 c5_1 c5_2 c5_3 c5_4 c5_5 c5_6 c5_f
        refine (due_calls hM_3 (by rw [liveX_ents]; have := HNK.out; omega) now).mono ?_
        rintro r wd2 ⟨vd2, rfl, -, hv2, hMi, hf⟩
        obtain rfl := hv2 (by rw [liveX_ents]; exact due_none _ _)
        have hF_4 := hF_3.weak hf (by simpa using hbw)
        have hq_4 := hq_3.fr hf hqb
        have hR_4 := fun x hx => (hR_3 x hx).frb hf
        have hK2_3 := Kd.F_step hK2_2 fun k hk hlt => hf.block k hlt (by simpa using hk.2)
        have hx_2 := hx_1.fr hf hxb
        clear hF_3 hq_3 hM_3 hR_3 hK2_2 hx_1
        clear hf
        have HF := Hd.mk hF_4
        clear hF_4
        go_wp2
        go_ret
        exact ⟨rfl, HF.out⟩
end Go.Proofs.Ytnikhiegnledlaa
