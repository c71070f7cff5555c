import Derived.Test.YtnikhiegnledlaaM12
namespace Go.Proofs.Ytnikhiegnledlaa
open Go Go.RowKit Go.Proofs.MapL PPM Go.Proofs.YtnikhiegnledlaaW.PrintWords

theorem mem_find {L : List En} {q : Qn} {o : En} (h : findE L q = some o) : o ∈ L ∧ o.q = q := ⟨List.mem_of_find?_eq_some h, by simpa using List.find?_some h⟩
theorem putE_find (L : List En) (e : En) : findE (putE L e) e.q = some e := by
  have h := kv_find (putE L e) e.q
  rw [← kv_put] at h
  rw [← h, find_put]
  simp
theorem putE_len (L : List En) (e : En) : (putE L e).length = if (findE L e.q).isSome then L.length else L.length + 1 := by
  unfold putE; split <;> simp
theorem ins_cases (L : List En) (e : En) (now : Int) (hL : L.length ≤ 5) :
    (liveB e.expire now = false ∧ insC L 5 e now = 4 ∧ insL L 5 e now = L) ∨
    (liveB e.expire now = true ∧ (findE L e.q).isSome = true ∧ insC L 5 e now = 0 ∧ insL L 5 e now = putE L e ∧ (putE L e).length = L.length) ∨
    (liveB e.expire now = true ∧ (findE L e.q).isSome = true ∧ insC L 5 e now = 7 ∧ insL L 5 e now = L) ∨
    (liveB e.expire now = true ∧ (findE L e.q).isSome = false ∧ (5 : Int) ≤ L.length ∧ insC L 5 e now = 5 ∧ insL L 5 e now = L) ∨
    (liveB e.expire now = true ∧ (findE L e.q).isSome = false ∧ (L.length : Int) < 5 ∧ insC L 5 e now = 0 ∧ insL L 5 e now = putE L e ∧ (putE L e).length = L.length + 1) := by
  unfold insL
  unfold insC
  rw [putE_len]
  cases hl : liveB e.expire now
  · simp
  · cases hf : findE L e.q with
    | none =>
      by_cases h5 : (L.length : Int) ≥ 5
      · simp [h5]; try omega
      · simp [h5]; try omega
    | some o => cases hb : beatsB o e now <;> simp [hb]

set_option maxRecDepth 100000 in
set_option maxHeartbeats 8000000 in
theorem full_law {w : World} {v : Value} {ds : List Dd} (hD : DeedsAt w v ds) (e : En) (now : Int) : Calls Try.prog 8 #[v, e.v, .int .u64 now] w fun r w' => r = .returned (.bool true) ∧ Fr [] w w' := by
  unfold En.v
  go_enter Try.func8, Try.ntmps8
  go_upto_region 1 with (fail)
  refine wp_name ?_
  intro w0 hw0
  have hF := alloc_of hw0
  have he := blk_of (T := 35) (c := [.string e.q.name, .int .u16 e.q.ty, .int .u16 e.q.cl, .slice e.ra e.rn e.rc, .int .i64 e.rcode, .int .i64 e.rank, .int .u64 e.expire]) hw0
  have hD0 := hD.fr hF
  clear hw0
  obtain ⟨c1_0, c1_1, c1_2, c1_3, c1_4, c1_5, c1_6, c1_f⟩ := he.cells7
  go_wp2_with fail
  clear c1_0 c1_1 c1_2 c1_3 c1_4 c1_5 c1_6 c1_f
  refine (shown_calls _).mono ?_
  rintro r ws ⟨rfl, hf⟩
  have hF_1 := hF.trans hf
  have he_1 := he.fr hf (by simp)
  have hD_1 := hD0.fr hf
  clear hF he hD0
  clear hf
  obtain ⟨c1_0, c1_1, c1_2, c1_3, c1_4, c1_5, c1_6, c1_f⟩ := he_1.cells7
  go_wp2_with fail
  clear c1_0 c1_1 c1_2 c1_3 c1_4 c1_5 c1_6 c1_f
  refine (ran_calls hD_1).mono ?_
  rintro r wr_ ⟨p, b, X, v_, rfl, hDS, hX5, hf, hp, hb⟩
  have heb : w.heap.size ∉ [b] := by have := he_1.lt; simp; omega
  have hbw : w.heap.size ≤ b := by have := hF_1.size; omega
  clear hD_1
  have hF_2 := hF_1.trans hf
  have he_2 := he_1.fr hf (by simp)
  clear hF_1 he_1
  clear hf hp hb
  have hM := hDS.m
  clear hDS
  have hL5 : (ents X).length ≤ 5 := by rw [List.length_map]; exact hX5
  obtain ⟨L, hLX⟩ : ∃ L, ents X = L := ⟨_, rfl⟩
  rw [hLX] at hM hL5
  clear hLX hX5
  have hcs := ins_cases L e now hL5
  obtain ⟨N, hN⟩ : ∃ N : Int, (L.length : Int) = N := ⟨_, rfl⟩
  have hN0 : 0 ≤ N := by omega
  have hN5 : N ≤ 5 := by omega
  obtain ⟨F, hFl⟩ : ∃ F, decide (N ≥ 5) = F := ⟨_, rfl⟩
  obtain ⟨H, hH⟩ : ∃ H, (findE L e.q).isSome = H := ⟨_, rfl⟩
  obtain ⟨C, hC⟩ : ∃ C, insC L 5 e now = C := ⟨_, rfl⟩
  have hLv : decide (e.expire > now) = liveB e.expire now := rfl
  obtain ⟨V, hV⟩ : ∃ V, liveB e.expire now = V := ⟨_, rfl⟩
  rw [hV] at hLv
  rw [hN, hH, hC, hV] at hcs
  have CS := Hd.mk hcs
  have LV := Hd.mk hLv
  have FL := Hd.mk hFl
  have HH := Hd.mk hH
  have HC := Hd.mk hC
  have HN := Hd.mk hN
  have HL5 := Hd.mk hL5
  clear hcs hLv hV hFl hH hC hN hL5
  obtain ⟨c1_0, c1_1, c1_2, c1_3, c1_4, c1_5, c1_6, c1_f⟩ := he_2.cells7
  go_wp2_with fail
  clear c1_0 c1_1 c1_2 c1_3 c1_4 c1_5 c1_6 c1_f
  refine (full_calls hM).mono ?_
  rintro r wfu ⟨rfl, hf⟩
  have hF_3 := hF_2.trans hf
  have he_3 := he_2.fr hf (by simp)
  have hM_1 := hM.fr hf (by simp) (by simp)
  clear hF_2 he_2 hM
  clear hf
  rw [HN.out, FL.out]
  obtain ⟨c1_0, c1_1, c1_2, c1_3, c1_4, c1_5, c1_6, c1_f⟩ := he_3.cells7
  go_wp2_with fail
  clear c1_0 c1_1 c1_2 c1_3 c1_4 c1_5 c1_6 c1_f
  refine (has_calls hM_1 e.q).mono ?_
  rintro r wha ⟨rfl, hf⟩
  have hF_4 := hF_3.trans hf
  have he_4 := he_3.fr hf (by simp)
  have hM_2 := hM_1.fr hf (by simp) (by simp)
  clear hF_3 he_3 hM_1
  clear hf
  rw [HH.out]
  obtain ⟨c1_0, c1_1, c1_2, c1_3, c1_4, c1_5, c1_6, c1_f⟩ := he_4.cells7
  go_wp2_with fail
  clear c1_0 c1_1 c1_2 c1_3 c1_4 c1_5 c1_6 c1_f
  refine (len_calls hM_2).mono ?_
  rintro r wle ⟨rfl, rfl⟩
  rw [HN.out]
  obtain ⟨c1_0, c1_1, c1_2, c1_3, c1_4, c1_5, c1_6, c1_f⟩ := he_4.cells7
  go_wp2_with fail
  clear c1_0 c1_1 c1_2 c1_3 c1_4 c1_5 c1_6 c1_f
  refine (insert_calls hM_2 (by have := HL5.out; unfold maxLen; omega) e now).mono ?_
  rintro r win ⟨rfl, hMi, hf⟩
  rw [HC.out]
  have hF_5 := hF_4.weak hf (by simpa using hbw)
  have he_5 := he_4.fr hf heb
  clear hF_4 he_4 hM_2
  clear hf
  rcases CS.out with ⟨rfl, rfl, e1⟩ | ⟨rfl, rfl, rfl, e1, e2⟩ | ⟨rfl, rfl, rfl, e1⟩ | ⟨rfl, rfl, h5, rfl, e1⟩ | ⟨rfl, rfl, h5, rfl, e1, e2⟩
  · rw [e1] at hMi
    rcases F with _ | _
    · have h5 := FL.out
      have h5 := of_decide_eq_false h5
      have h5 : N < 5 := by omega
      have hLv := LV.out
      obtain ⟨c1_0, c1_1, c1_2, c1_3, c1_4, c1_5, c1_6, c1_f⟩ := he_5.cells7
      go_wp2_with fail
      clear c1_0 c1_1 c1_2 c1_3 c1_4 c1_5 c1_6 c1_f
      refine (len_calls hMi).mono ?_
      rintro r wl2 ⟨rfl, rfl⟩
      rw [HN.out]
      obtain ⟨c1_0, c1_1, c1_2, c1_3, c1_4, c1_5, c1_6, c1_f⟩ := he_5.cells7
      have HF := Hd.mk hF_5
      clear hF_5
      go_wp2
      go_ret
      exact ⟨rfl, HF.out⟩
    · have h5 := FL.out
      have h5 := of_decide_eq_true h5
      have hLv := LV.out
      obtain ⟨c1_0, c1_1, c1_2, c1_3, c1_4, c1_5, c1_6, c1_f⟩ := he_5.cells7
      go_wp2_with fail
      clear c1_0 c1_1 c1_2 c1_3 c1_4 c1_5 c1_6 c1_f
      refine (len_calls hMi).mono ?_
      rintro r wl2 ⟨rfl, rfl⟩
      rw [HN.out]
      obtain ⟨c1_0, c1_1, c1_2, c1_3, c1_4, c1_5, c1_6, c1_f⟩ := he_5.cells7
      have HF := Hd.mk hF_5
      clear hF_5
      go_wp2
      go_ret
      exact ⟨rfl, HF.out⟩
  · rw [e1] at hMi
    rcases F with _ | _
    · have h5 := FL.out
      have h5 := of_decide_eq_false h5
      have h5 : N < 5 := by omega
      have hLv := LV.out
      obtain ⟨c1_0, c1_1, c1_2, c1_3, c1_4, c1_5, c1_6, c1_f⟩ := he_5.cells7
      go_wp2_with fail
      clear c1_0 c1_1 c1_2 c1_3 c1_4 c1_5 c1_6 c1_f
      refine (len_calls hMi).mono ?_
      rintro r wl2 ⟨rfl, rfl⟩
      have hN2 : ((putE L e).length : Int) = N := by rw [e2]; have := HN.out; omega
      rw [hN2]
      clear hN2
      obtain ⟨c1_0, c1_1, c1_2, c1_3, c1_4, c1_5, c1_6, c1_f⟩ := he_5.cells7
      go_wp2_with fail
      clear c1_0 c1_1 c1_2 c1_3 c1_4 c1_5 c1_6 c1_f
      refine (has_calls hMi e.q).mono ?_
      rintro r wh2 ⟨rfl, hf⟩
      have hF_6 := hF_5.trans hf
      have he_6 := he_5.fr hf (by simp)
      have hM_4 := hMi.fr hf (by simp) (by simp)
      clear hF_5 he_5 hMi
      clear hf
      rw [putE_find]
      simp only [Option.isSome_some]
      obtain ⟨c1_0, c1_1, c1_2, c1_3, c1_4, c1_5, c1_6, c1_f⟩ := he_6.cells7
      have HF := Hd.mk hF_6
      clear hF_6
      go_wp2
      go_ret
      exact ⟨rfl, HF.out⟩
    · have h5 := FL.out
      have h5 := of_decide_eq_true h5
      have hLv := LV.out
      obtain ⟨c1_0, c1_1, c1_2, c1_3, c1_4, c1_5, c1_6, c1_f⟩ := he_5.cells7
      go_wp2_with fail
      clear c1_0 c1_1 c1_2 c1_3 c1_4 c1_5 c1_6 c1_f
      refine (len_calls hMi).mono ?_
      rintro r wl2 ⟨rfl, rfl⟩
      have hN2 : ((putE L e).length : Int) = N := by rw [e2]; have := HN.out; omega
      rw [hN2]
      clear hN2
      obtain ⟨c1_0, c1_1, c1_2, c1_3, c1_4, c1_5, c1_6, c1_f⟩ := he_5.cells7
      go_wp2_with fail
      clear c1_0 c1_1 c1_2 c1_3 c1_4 c1_5 c1_6 c1_f
      refine (has_calls hMi e.q).mono ?_
      rintro r wh2 ⟨rfl, hf⟩
      have hF_6 := hF_5.trans hf
      have he_6 := he_5.fr hf (by simp)
      have hM_4 := hMi.fr hf (by simp) (by simp)
      clear hF_5 he_5 hMi
      clear hf
      rw [putE_find]
      simp only [Option.isSome_some]
      obtain ⟨c1_0, c1_1, c1_2, c1_3, c1_4, c1_5, c1_6, c1_f⟩ := he_6.cells7
      have HF := Hd.mk hF_6
      clear hF_6
      go_wp2
      go_ret
      exact ⟨rfl, HF.out⟩
  · rw [e1] at hMi
    rcases F with _ | _
    · have h5 := FL.out
      have h5 := of_decide_eq_false h5
      have h5 : N < 5 := by omega
      have hLv := LV.out
      obtain ⟨c1_0, c1_1, c1_2, c1_3, c1_4, c1_5, c1_6, c1_f⟩ := he_5.cells7
      go_wp2_with fail
      clear c1_0 c1_1 c1_2 c1_3 c1_4 c1_5 c1_6 c1_f
      refine (len_calls hMi).mono ?_
      rintro r wl2 ⟨rfl, rfl⟩
      rw [HN.out]
      obtain ⟨c1_0, c1_1, c1_2, c1_3, c1_4, c1_5, c1_6, c1_f⟩ := he_5.cells7
      have HF := Hd.mk hF_5
      clear hF_5
      go_wp2
      go_ret
      exact ⟨rfl, HF.out⟩
    · have h5 := FL.out
      have h5 := of_decide_eq_true h5
      have hLv := LV.out
      obtain ⟨c1_0, c1_1, c1_2, c1_3, c1_4, c1_5, c1_6, c1_f⟩ := he_5.cells7
      go_wp2_with fail
      clear c1_0 c1_1 c1_2 c1_3 c1_4 c1_5 c1_6 c1_f
      refine (len_calls hMi).mono ?_
      rintro r wl2 ⟨rfl, rfl⟩
      rw [HN.out]
      obtain ⟨c1_0, c1_1, c1_2, c1_3, c1_4, c1_5, c1_6, c1_f⟩ := he_5.cells7
      have HF := Hd.mk hF_5
      clear hF_5
      go_wp2
      go_ret
      exact ⟨rfl, HF.out⟩
  · rw [e1] at hMi
    obtain rfl : true = F := by rw [← FL.out]; exact (decide_eq_true (by omega)).symm
    have hLv := LV.out
    obtain ⟨c1_0, c1_1, c1_2, c1_3, c1_4, c1_5, c1_6, c1_f⟩ := he_5.cells7
    go_wp2_with fail
    clear c1_0 c1_1 c1_2 c1_3 c1_4 c1_5 c1_6 c1_f
    refine (len_calls hMi).mono ?_
    rintro r wl2 ⟨rfl, rfl⟩
    rw [HN.out]
    obtain ⟨c1_0, c1_1, c1_2, c1_3, c1_4, c1_5, c1_6, c1_f⟩ := he_5.cells7
    have HF := Hd.mk hF_5
    clear hF_5
    go_wp2
    go_ret
    exact ⟨rfl, HF.out⟩
  · rw [e1] at hMi
    obtain rfl : false = F := by rw [← FL.out]; exact (decide_eq_false (by omega)).symm
    have hLv := LV.out
    obtain ⟨c1_0, c1_1, c1_2, c1_3, c1_4, c1_5, c1_6, c1_f⟩ := he_5.cells7
    go_wp2_with fail
    clear c1_0 c1_1 c1_2 c1_3 c1_4 c1_5 c1_6 c1_f
    refine (len_calls hMi).mono ?_
    rintro r wl2 ⟨rfl, rfl⟩
    have hN2 : ((putE L e).length : Int) = N + 1 := by rw [e2]; have := HN.out; omega
    rw [hN2]
    clear hN2
    obtain ⟨c1_0, c1_1, c1_2, c1_3, c1_4, c1_5, c1_6, c1_f⟩ := he_5.cells7
    go_wp2_with fail
    clear c1_0 c1_1 c1_2 c1_3 c1_4 c1_5 c1_6 c1_f
    refine (has_calls hMi e.q).mono ?_
    rintro r wh2 ⟨rfl, hf⟩
    have hF_6 := hF_5.trans hf
    have he_6 := he_5.fr hf (by simp)
    have hM_4 := hMi.fr hf (by simp) (by simp)
    clear hF_5 he_5 hMi
    clear hf
    rw [putE_find]
    simp only [Option.isSome_some]
    obtain ⟨c1_0, c1_1, c1_2, c1_3, c1_4, c1_5, c1_6, c1_f⟩ := he_6.cells7
    have HF := Hd.mk hF_6
    clear hF_6
    go_wp2
    go_ret
    exact ⟨rfl, HF.out⟩
end Go.Proofs.Ytnikhiegnledlaa
