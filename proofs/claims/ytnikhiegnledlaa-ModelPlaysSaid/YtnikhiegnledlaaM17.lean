import Derived.Test.YtnikhiegnledlaaML
namespace Go.Proofs.Ytnikhiegnledlaa
open Go Go.RowKit Go.Proofs.MapL PPM Go.Proofs.YtnikhiegnledlaaW.PrintWords

theorem insX_len {X : List Ex} {room now : Int} {y : Ex} : (insX X room y now).length ≤ X.length + 1 := by
  unfold insX putX
  split
  · split <;> simp
  · omega
theorem doX_len (X : List Ex) (room : Int) (d : Dd) : (doX X room d).length ≤ X.length + 1 := by
  unfold doX
  split
  · exact insX_len
  · split
    · omega
    · split
      · exact Nat.le_succ_of_le (List.length_filter_le _ _)
      · exact Nat.le_succ_of_le (List.length_filter_le _ _)
set_option maxRecDepth 100000 in
set_option maxHeartbeats 4000000 in
theorem plays_law {w : World} {v : Value} {ds : List Dd} (room : Int) (hD : DeedsAt w v ds) (q : Qn) : Calls Try.prog 3 #[.int .i64 room, v, q.v] w fun r w' => r = .returned (.bool true) ∧ Fr [] w w' := by
  obtain ⟨hle, hrr, A0, c0_, rfl, hat⟩ := hD
  have HAT := Hd.mk hat
  have HRR := Hd.mk hrr
  clear hat hrr
  unfold Qn.v
  go_enter Try.func3, Try.ntmps3
  go_upto_region 1 with (fail)
  refine wp_name ?_
  intro w0 hw0
  have hF := alloc_of hw0
  have hq := blk_of (T := 25) (c := [.string q.name, .int .u16 q.ty, .int .u16 q.cl]) hw0
  clear hw0
  go_wp2_with fail
  refine (shown_calls _).mono ?_
  rintro r ws ⟨rfl, hf⟩
  have hF1 := hF.trans hf
  have hq1 := hq.fr hf (by simp)
  clear hF hq hf
  rcases Int.lt_or_le room 1 with hr | hr
  · have HF := Hd.mk hF1
    clear hF1 hq1
    go_wp2_with fail
    refine (new_none room hr _).mono ?_
    rintro r wn ⟨rfl, rfl⟩
    go_wp2_with fail
    refine (full_nil _).mono ?_
    rintro r wf ⟨rfl, hf⟩
    have HF2 := Hd.mk (HF.out.trans hf)
    clear hf
    go_wp2
    go_ret
    exact ⟨rfl, HF2.out⟩
  · go_wp2_with fail
    refine (new_calls room hr _).mono ?_
    rintro r w1 ⟨p, b, rfl, hM, hf, hp, hb⟩
    have hF := hF1.trans hf
    have hq := hq1.fr hf (by simp)
    have hbw : w.heap.size < b := by have := hq1.lt; omega
    have hpw : w.heap.size < p := by have := hq1.lt; omega
    have hds : DS w1 p b room [] (.slice none 0 0) := ⟨hM, Kd.V_nil _ _ _ _ _, by simp⟩
    clear hM hF1 hq1 hf hp hb
    go_wp2_with fail
    go_loopw [9, 10] (fun v9 i wr => ∃ (k : Nat) (X : List Ex), k ≤ ds.length ∧ k ≤ 200 ∧ i = .int .i64 k ∧ DS wr p b room X v9 ∧ X.length ≤ k ∧ Fr [] w wr ∧ Blk wr w.heap.size 25 [.string q.name, .int .u16 q.ty, .int .u16 q.cl]) (fun _ i _ => 200 - (intOf i).toNat)
    case atStart => exact ⟨0, [], Nat.zero_le _, by omega, rfl, hds, by simp, hF, hq⟩
    case round =>
      obtain ⟨k, X, hk, hk2, rfl, hs, hX, hFr, hqr⟩ := hrel
      by_cases hlt : k < ds.length
      · by_cases hlt2 : k < 200
        · obtain ⟨g, off, rfl, hgl, hcc⟩ := HAT.out (by omega)
          obtain ⟨d, hd⟩ : ∃ d, ds[k] = d := ⟨_, rfl⟩
          have hcd := hcc k hlt
          have hrd := HRR.out (ds[k]) (List.getElem_mem hlt)
          rw [hd] at hcd hrd
          have hwr : ∀ j u, d.c[j]? = some u → wr.cell? ⟨g, off + k * 9 + j, none⟩ = some u := fun j u hu => hFr.cell (hcd j u hu) (by simp)
          have c0 : wr.cell? ⟨g, off + k * 9, none⟩ = some (.int .i64 d.kind) := hwr 0 _ rfl
          have c1 : wr.cell? ⟨g, off + k * 9 + 1, none⟩ = some (.string d.x.e.q.name) := hwr 1 _ rfl
          have c2 : wr.cell? ⟨g, off + k * 9 + 2, none⟩ = some (.int .u16 d.x.e.q.ty) := hwr 2 _ rfl
          have c3 : wr.cell? ⟨g, off + k * 9 + 3, none⟩ = some (.int .u16 d.x.e.q.cl) := hwr 3 _ rfl
          have c4 : wr.cell? ⟨g, off + k * 9 + 4, none⟩ = some (.slice d.x.e.ra d.x.e.rn d.x.e.rc) := hwr 4 _ rfl
          have c5 : wr.cell? ⟨g, off + k * 9 + 5, none⟩ = some (.int .i64 d.x.e.rcode) := hwr 5 _ rfl
          have c6 : wr.cell? ⟨g, off + k * 9 + 6, none⟩ = some (.int .i64 d.x.e.rank) := hwr 6 _ rfl
          have c7 : wr.cell? ⟨g, off + k * 9 + 7, none⟩ = some (.int .u64 d.x.e.expire) := hwr 7 _ rfl
          have c8 : wr.cell? ⟨g, off + k * 9 + 8, none⟩ = some (.int .u64 d.now) := hwr 8 _ rfl
          have hrd2 : RrOk wr (Nb p b) d.x := (hrd.step hFr (by simp)).mono fun k hk => ⟨by omega, by omega⟩
          have hdo := do_any hs d hrd2 (by omega)
          unfold Dd.v at hdo
          have HDO := Hd.mk hdo
          clear hdo hcd hrd hwr hcc hrd2 hd
          go_wp2_with fail
          clear c0 c1 c2 c3 c4 c5 c6 c7 c8
          refine HDO.out.mono ?_
          rintro r w2 ⟨v', rfl, hs2, hf2⟩
          have hF2 : Fr [] w w2 := hFr.weak hf2 (by simpa using Nat.le_of_lt hbw)
          have hq2 := hqr.fr hf2 (by simp; omega)
          have hX2 : (doX X room d).length ≤ k + 1 := by have := doX_len X room d; omega
          obtain ⟨X2, hX2e⟩ : ∃ X2, doX X room d = X2 := ⟨_, rfl⟩
          rw [hX2e] at hs2 hX2
          obtain ⟨A, c, rfl⟩ := Kd.V_slice hs2.r
          have hv := hs2.r
          have HS2 := Hd.mk hs2
          obtain ⟨n, hn⟩ : ∃ n, X2.length = n := ⟨_, rfl⟩
          rw [List.length_map] at hv HS2 ⊢
          rw [hn] at hv HS2 ⊢
          have HM := Hd.mk HS2.out.m
          have HLE : Hd ((ents X2).length = n) := Hd.mk (by rw [List.length_map, hn])
          have HN := Hd.mk hn
          have HV := Hd.mk hv
          have HFI := Hd.mk (find_f X2 q (k := n + 1) (by omega) (by omega))
          obtain ⟨FB, hFB⟩ : ∃ FB, decide ((n : Int) ≥ room) = FB := ⟨_, rfl⟩
          obtain ⟨HB, hHB⟩ : ∃ HB, (findE (ents X2) q).isSome = HB := ⟨_, rfl⟩
          have HFB := Hd.mk hFB
          have HHB := Hd.mk hHB
          have HIX : Hd (decide (idxI X2 q ≥ 0) = HB) := Hd.mk (by rw [find_idx, hHB])
          have HQ := Hd.mk hq2
          have HF2 := Hd.mk hF2
          have HX2 := Hd.mk hX2
          clear hs hs2 hf2 hF2 hX2 hFr HDO hq2 hqr hv hn hFB hHB hX2e
          go_wp2_with fail
          refine wp_region_gs { R := Fr [], R1 := Fr [], gs := [Is (.bool true), Is (.bool false), Is (.bool false), Is (.pointer (some ⟨p, 0, none⟩)), Is (.int .i64 n), Is (.slice A n c), Is (.int .i64 n), Is (.bool false), Is (.bool false), Is (.bool false), Is (.pointer (some ⟨p, 0, none⟩)), Is (.bool FB), Is (.slice A n c), Is (.int .i64 n), Is (.int .i64 room), Is (.bool FB), Is (.bool false), Is (.bool false), Is (.bool false), Is (.pointer (some ⟨p, 0, none⟩)), Is (.agg #[.string q.name, .int .u16 q.ty, .int .u16 q.cl]), Is (.bool HB), Is (.slice A n c), Is (.agg #[.string q.name, .int .u16 q.ty, .int .u16 q.cl]), Is (.int .i64 (idxI X2 q)), Is (.bool HB), Is (.bool false), Is (.bool false)], ds := [some 49, some 50, some 51, some 52, some 53, some 54, some 55, some 56, some 57, some 58, some 59, some 60, some 61, some 62, some 63, some 64, some 65, some 66, some 67, some 68, some 69, some 70, some 71, some 72, some 73, some 74, some 75, some 76], fl := [false, false, false, false, false, false, false, false, false, false, false, false, false, false, false, false, false, false, false, false, false, false, false, false, false, false, false, false], hs := [], hd := [] } [false, false, false, false, false, false, false, false, false, false, false, false, false, false, false, false, false, false, false, false, false, false, false, false, false, false, false, false, false, false, false, false, false, false, false, false, false, false, false, false, false, false, false, false, false, false, false, false, false, true, true, true, true, true, true, true, true, true, true, true, true, true, true, true, true, true, true, true, true, true, true, true, true, true, true, true, true, false] (by kernel_rfl) _ (by kernel_rfl) (by kernel_rfl) (by kernel_rfl) (by kernel_rfl) rfl [] (fun _ _ _ h1 h2 => h1.trans h2) (fun _ _ h => h) (staI (staI (staI (staI (staI (staI (staI (staI (staI (staI (staI (staI (staI (staI (staI (staI (staI (staI (staI (staI (staI (staI (staI (staI (staI (staI (staI (staI sta0)))))))))))))))))))))))))))) sth0 (fun _ _ h => h.size) _ (Fr.refl _ _) trivial ?_ ?_
          · refine ⟨?_, ?_, ?_, ?_, ?_, ?_, ?_, ?_, ?_, ?_, ?_, ?_, ?_, ?_, ?_, ?_, ?_, ?_, ?_, ?_, ?_, ?_, ?_, ?_, ?_, ?_, ?_, ?_, trivial⟩
            · intro σ w' hR hd
              simp only [fill, Nat.reduceAdd, if_true, Bool.false_eq_true, if_false]
              clear hd
              go_wp2
              exact ⟨Fr.refl _ _, rfl⟩
            · intro σ w' hR hd
              simp only [fill, Nat.reduceAdd, if_true, Bool.false_eq_true, if_false]
              obtain h49 : σ 49 = _ := hd 0 (by decide)
              rw [h49]
              clear h49
              clear hd
              go_wp2
              exact ⟨Fr.refl _ _, rfl⟩
            · intro σ w' hR hd
              simp only [fill, Nat.reduceAdd, if_true, Bool.false_eq_true, if_false]
              obtain h50 : σ 50 = _ := hd 1 (by decide)
              rw [h50]
              clear h50
              clear hd
              go_wp2
              exact ⟨Fr.refl _ _, rfl⟩
            · intro σ w' hR hd
              simp only [fill, Nat.reduceAdd, if_true, Bool.false_eq_true, if_false]
              obtain h51 : σ 51 = _ := hd 2 (by decide)
              rw [h51]
              clear h51
              clear hd
              go_wp2
              exact ⟨Fr.refl _ _, rfl⟩
            · intro σ w' hR hd
              simp only [fill, Nat.reduceAdd, if_true, Bool.false_eq_true, if_false]
              obtain h51 : σ 51 = _ := hd 2 (by decide)
              obtain h52 : σ 52 = _ := hd 3 (by decide)
              rw [h51, h52]
              clear h51 h52
              clear hd
              have hfr := (Fr.drew (Fr.refl [] _)).trans hR
              have hm := HM.out.fr hfr (by simp) (by simp)
              go_wp2_with fail
              refine (len_calls hm).mono ?_
              rintro e w4 ⟨rfl, rfl⟩
              rw [HLE.out]
              go_wp2
              exact ⟨Fr.refl _ _, rfl⟩
            · intro σ w' hR hd
              simp only [fill, Nat.reduceAdd, if_true, Bool.false_eq_true, if_false]
              obtain h51 : σ 51 = _ := hd 2 (by decide)
              rw [h51]
              clear h51
              clear hd
              go_wp2
              exact ⟨Fr.refl _ _, rfl⟩
            · intro σ w' hR hd
              simp only [fill, Nat.reduceAdd, if_true, Bool.false_eq_true, if_false]
              obtain h51 : σ 51 = _ := hd 2 (by decide)
              obtain h54 : σ 54 = _ := hd 5 (by decide)
              rw [h51, h54]
              clear h51 h54
              clear hd
              go_wp2
              exact ⟨Fr.refl _ _, rfl⟩
            · intro σ w' hR hd
              simp only [fill, Nat.reduceAdd, if_true, Bool.false_eq_true, if_false]
              obtain h51 : σ 51 = _ := hd 2 (by decide)
              obtain h53 : σ 53 = _ := hd 4 (by decide)
              obtain h55 : σ 55 = _ := hd 6 (by decide)
              rw [h51, h53, h55]
              clear h51 h53 h55
              clear hd
              go_wp2
              exact ⟨Fr.refl _ _, rfl⟩
            · intro σ w' hR hd
              simp only [fill, Nat.reduceAdd, if_true, Bool.false_eq_true, if_false]
              obtain h51 : σ 51 = _ := hd 2 (by decide)
              obtain h56 : σ 56 = _ := hd 7 (by decide)
              rw [h51, h56]
              clear h51 h56
              clear hd
              go_wp2
              exact ⟨Fr.refl _ _, rfl⟩
            · intro σ w' hR hd
              simp only [fill, Nat.reduceAdd, if_true, Bool.false_eq_true, if_false]
              obtain h57 : σ 57 = _ := hd 8 (by decide)
              rw [h57]
              clear h57
              clear hd
              go_wp2
              exact ⟨Fr.refl _ _, rfl⟩
            · intro σ w' hR hd
              simp only [fill, Nat.reduceAdd, if_true, Bool.false_eq_true, if_false]
              obtain h58 : σ 58 = _ := hd 9 (by decide)
              rw [h58]
              clear h58
              clear hd
              go_wp2
              exact ⟨Fr.refl _ _, rfl⟩
            · intro σ w' hR hd
              simp only [fill, Nat.reduceAdd, if_true, Bool.false_eq_true, if_false]
              obtain h58 : σ 58 = _ := hd 9 (by decide)
              obtain h59 : σ 59 = _ := hd 10 (by decide)
              rw [h58, h59]
              clear h58 h59
              clear hd
              have hfr := (Fr.drew (Fr.refl [] _)).trans hR
              have hm := HM.out.fr hfr (by simp) (by simp)
              go_wp2_with fail
              refine (full_calls hm).mono ?_
              rintro e w4 ⟨rfl, hf⟩
              rw [HLE.out, HFB.out]
              have HFF := Hd.mk hf
              clear hf
              go_wp2
              exact ⟨HFF.out, rfl⟩
            · intro σ w' hR hd
              simp only [fill, Nat.reduceAdd, if_true, Bool.false_eq_true, if_false]
              obtain h58 : σ 58 = _ := hd 9 (by decide)
              rw [h58]
              clear h58
              clear hd
              go_wp2
              exact ⟨Fr.refl _ _, rfl⟩
            · intro σ w' hR hd
              simp only [fill, Nat.reduceAdd, if_true, Bool.false_eq_true, if_false]
              obtain h58 : σ 58 = _ := hd 9 (by decide)
              obtain h61 : σ 61 = _ := hd 12 (by decide)
              rw [h58, h61]
              clear h58 h61
              clear hd
              go_wp2
              exact ⟨Fr.refl _ _, rfl⟩
            · intro σ w' hR hd
              simp only [fill, Nat.reduceAdd, if_true, Bool.false_eq_true, if_false]
              obtain h58 : σ 58 = _ := hd 9 (by decide)
              rw [h58]
              clear h58
              clear hd
              go_wp2
              exact ⟨Fr.refl _ _, rfl⟩
            · intro σ w' hR hd
              simp only [fill, Nat.reduceAdd, if_true, Bool.false_eq_true, if_false]
              obtain h58 : σ 58 = _ := hd 9 (by decide)
              obtain h62 : σ 62 = _ := hd 13 (by decide)
              obtain h63 : σ 63 = _ := hd 14 (by decide)
              rw [h58, h62, h63]
              clear h58 h62 h63
              clear hd
              have hfb := HFB.out
              go_wp2
              exact ⟨Fr.refl _ _, rfl⟩
            · intro σ w' hR hd
              simp only [fill, Nat.reduceAdd, if_true, Bool.false_eq_true, if_false]
              obtain h58 : σ 58 = _ := hd 9 (by decide)
              obtain h60 : σ 60 = _ := hd 11 (by decide)
              obtain h64 : σ 64 = _ := hd 15 (by decide)
              rw [h58, h60, h64]
              clear h58 h60 h64
              clear hd
              go_wp2
              exact ⟨Fr.refl _ _, rfl⟩
            · intro σ w' hR hd
              simp only [fill, Nat.reduceAdd, if_true, Bool.false_eq_true, if_false]
              obtain h58 : σ 58 = _ := hd 9 (by decide)
              obtain h65 : σ 65 = _ := hd 16 (by decide)
              rw [h58, h65]
              clear h58 h65
              clear hd
              go_wp2
              exact ⟨Fr.refl _ _, rfl⟩
            · intro σ w' hR hd
              simp only [fill, Nat.reduceAdd, if_true, Bool.false_eq_true, if_false]
              obtain h66 : σ 66 = _ := hd 17 (by decide)
              rw [h66]
              clear h66
              clear hd
              go_wp2
              exact ⟨Fr.refl _ _, rfl⟩
            · intro σ w' hR hd
              simp only [fill, Nat.reduceAdd, if_true, Bool.false_eq_true, if_false]
              obtain h67 : σ 67 = _ := hd 18 (by decide)
              rw [h67]
              clear h67
              clear hd
              go_wp2
              exact ⟨Fr.refl _ _, rfl⟩
            · intro σ w' hR hd
              simp only [fill, Nat.reduceAdd, if_true, Bool.false_eq_true, if_false]
              obtain h67 : σ 67 = _ := hd 18 (by decide)
              rw [h67]
              clear h67
              clear hd
              have hfr := (Fr.drew (Fr.refl [] _)).trans hR
              obtain ⟨b0, b1, b2, bf⟩ := (HQ.out.fr hfr (by simp)).cells3
              go_wp2
              exact ⟨Fr.refl _ _, rfl⟩
            · intro σ w' hR hd
              simp only [fill, Nat.reduceAdd, if_true, Bool.false_eq_true, if_false]
              obtain h67 : σ 67 = _ := hd 18 (by decide)
              obtain h68 : σ 68 = _ := hd 19 (by decide)
              obtain h69 : σ 69 = _ := hd 20 (by decide)
              rw [h67, h68, h69]
              clear h67 h68 h69
              clear hd
              have hfr := (Fr.drew (Fr.refl [] _)).trans hR
              have hm := HM.out.fr hfr (by simp) (by simp)
              go_wp2_with fail
              refine (has_calls hm q).mono ?_
              rintro e w4 ⟨rfl, hf⟩
              rw [HHB.out]
              have HFF := Hd.mk hf
              clear hf
              go_wp2
              exact ⟨HFF.out, rfl⟩
            · intro σ w' hR hd
              simp only [fill, Nat.reduceAdd, if_true, Bool.false_eq_true, if_false]
              obtain h67 : σ 67 = _ := hd 18 (by decide)
              rw [h67]
              clear h67
              clear hd
              go_wp2
              exact ⟨Fr.refl _ _, rfl⟩
            · intro σ w' hR hd
              simp only [fill, Nat.reduceAdd, if_true, Bool.false_eq_true, if_false]
              obtain h67 : σ 67 = _ := hd 18 (by decide)
              rw [h67]
              clear h67
              clear hd
              have hfr := (Fr.drew (Fr.refl [] _)).trans hR
              obtain ⟨b0, b1, b2, bf⟩ := (HQ.out.fr hfr (by simp)).cells3
              go_wp2
              exact ⟨Fr.refl _ _, rfl⟩
            · intro σ w' hR hd
              simp only [fill, Nat.reduceAdd, if_true, Bool.false_eq_true, if_false]
              obtain h67 : σ 67 = _ := hd 18 (by decide)
              obtain h71 : σ 71 = _ := hd 22 (by decide)
              obtain h72 : σ 72 = _ := hd 23 (by decide)
              rw [h67, h71, h72]
              clear h67 h71 h72
              clear hd
              have hfr := (Fr.drew (Fr.refl [] _)).trans hR
              have hv := Kd.V_step HV.out fun k _ hlt => hfr.block k hlt (by simp)
              have hcl := derrickref13_Find.calls _ A c (X2.map Ex.s) q.name q.ty q.cl _ _ (Kd.V_reads' hv).2.2 (by rw [List.length_map, HN.out]; exact (Kd.V_reads' hv).2.1) HFI.out
              rw [List.length_map, HN.out] at hcl
              have HCL := Hd.mk hcl
              clear hcl hv
              go_wp2_with fail
              refine HCL.out.mono ?_
              rintro e w4 ⟨rfl, hb⟩
              have HFF := Hd.mk (fr_below hb)
              clear hb
              go_wp2
              exact ⟨HFF.out, rfl⟩
            · intro σ w' hR hd
              simp only [fill, Nat.reduceAdd, if_true, Bool.false_eq_true, if_false]
              obtain h67 : σ 67 = _ := hd 18 (by decide)
              obtain h73 : σ 73 = _ := hd 24 (by decide)
              rw [h67, h73]
              clear h67 h73
              clear hd
              have hix := HIX.out
              go_wp2
              exact ⟨Fr.refl _ _, rfl⟩
            · intro σ w' hR hd
              simp only [fill, Nat.reduceAdd, if_true, Bool.false_eq_true, if_false]
              obtain h67 : σ 67 = _ := hd 18 (by decide)
              obtain h70 : σ 70 = _ := hd 21 (by decide)
              obtain h74 : σ 74 = _ := hd 25 (by decide)
              rw [h67, h70, h74]
              clear h67 h70 h74
              clear hd
              go_wp2
              exact ⟨Fr.refl _ _, rfl⟩
            · intro σ w' hR hd
              simp only [fill, Nat.reduceAdd, if_true, Bool.false_eq_true, if_false]
              obtain h67 : σ 67 = _ := hd 18 (by decide)
              obtain h75 : σ 75 = _ := hd 26 (by decide)
              rw [h67, h75]
              clear h67 h75
              clear hd
              go_wp2
              exact ⟨Fr.refl _ _, rfl⟩
          · intro σ w3 hR hG hH
            obtain h76 : σ 76 = _ := hG 27 (by decide)
            simp only [fill, Nat.reduceAdd, if_true, Bool.false_eq_true, if_false, h76]
            clear h76
            clear hG
            have HFr := Hd.mk ((Fr.drew (Fr.refl [] _)).trans hR)
            clear hR hH
            go_wp2
            go_roundw
            case rel => exact ⟨k + 1, X2, by omega, by omega, by go_num, HS2.out.fr HFr.out, HX2.out, HF2.out.trans HFr.out, HQ.out.fr HFr.out (by simp)⟩
            case measure => simp [intOf]; omega
        · have HF := Hd.mk hFr
          clear hs hFr hqr
          go_wp2
          go_ret
          exact ⟨rfl, HF.out⟩
      · have HF := Hd.mk hFr
        clear hs hFr hqr
        go_wp2
        go_ret
        exact ⟨rfl, HF.out⟩
end Go.Proofs.Ytnikhiegnledlaa
