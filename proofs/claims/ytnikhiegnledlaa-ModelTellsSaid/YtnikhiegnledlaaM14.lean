import Derived.Test.YtnikhiegnledlaaM13
namespace Go.Proofs.Ytnikhiegnledlaa
open Go Go.RowKit Go.Proofs.MapL PPM Go.Proofs.YtnikhiegnledlaaW.PrintWords

theorem find_put_ne {X : List Ex} {x : Ex} {q : Qn} (h : q ≠ x.e.q) : (putX X x).find? (fun y => decide (y.e.q = q)) = X.find? fun y => decide (y.e.q = q) := by
  unfold putX
  split
  next hf =>
    clear hf
    induction X with
    | nil => rfl
    | cons a X ih =>
      rw [List.map_cons, List.find?_cons, List.find?_cons, ih]
      by_cases ha : a.e.q = x.e.q
      · rw [if_pos ha, ha, decide_eq_false (Ne.symm h)]
      · rw [if_neg ha]
  next hf =>
    rw [List.find?_append]
    have e : decide (x.e.q = q) = false := decide_eq_false (Ne.symm h)
    simp [e]
theorem find_put_eq (X : List Ex) (x : Ex) : (putX X x).find? (fun y => decide (y.e.q = x.e.q)) = some x := by
  unfold putX
  split
  next hf =>
    unfold findE at hf
    rw [List.find?_map] at hf
    simp only [Option.isSome_map] at hf
    have hf : (X.find? fun y => decide (y.e.q = x.e.q)).isSome = true := hf
    induction X with
    | nil => cases hf
    | cons a X ih =>
      rw [List.map_cons, List.find?_cons]
      by_cases ha : a.e.q = x.e.q
      · rw [if_pos ha]; simp
      · rw [if_neg ha]
        rw [List.find?_cons] at hf
        have e : decide (a.e.q = x.e.q) = false := decide_eq_false ha
        rw [e] at hf ⊢
        exact ih ‹_› hf
  next hf =>
    rw [List.find?_append]
    unfold findE at hf
    rw [List.find?_map] at hf
    simp only [Option.isSome_map] at hf
    have hf : ¬ (X.find? fun y => decide (y.e.q = x.e.q)).isSome = true := hf
    rw [Option.not_isSome_iff_eq_none] at hf
    rw [hf]; simp
theorem lookX_ins {X : List Ex} {room now : Int} {y : Ex} {q : Qn} (h : q ≠ y.e.q) (n : Int) : lookX (insX X room y now) q n = lookX X q n := by
  unfold insX
  split
  · rw [lookX_find, lookX_find, find_put_ne h]
  · rfl
theorem lookX_new {X : List Ex} {room now : Int} {y : Ex} (h : insC (ents X) room y.e now = 0) (n : Int) : lookX (insX X room y now) y.e.q n = if liveB y.e.expire n then some y else none := by
  unfold insX
  rw [if_pos h, lookX_find, find_put_eq]; rfl

attribute [local go_sem high] eqA25
set_option maxRecDepth 100000 in
set_option maxHeartbeats 8000000 in
theorem tells_law {w : World} {v : Value} {ds : List Dd} (hD : DeedsAt w v ds) {y : Ex} (hy : RrOk w (fun k => k < w.heap.size) y) (q : Qn) {now later : Int} (hlw : IntKind.u64.wrap later = later) : Calls Try.prog 4 #[v, y.e.v, .int .u64 now, .int .u32 later, q.v] w fun r w' => r = .returned (.bool true) ∧ Fr [] w w' := by
  have HN := Hd.mk hy.n
  obtain ⟨T, hT⟩ : ∃ T, IntKind.u64.wrap (now + later) = T := ⟨_, rfl⟩
  unfold Qn.v En.v
  rw [HN.out]
  by_cases heq : y.e.q = q
  · subst heq
    go_enter Try.func4, Try.ntmps4
    go_upto_region 1 with (fail)
    refine wp_name ?_
    intro w0 hw0
    have hF : Fr [] w w0 := by rw [hw0]; exact ((Fr.refl [] w).alloc _).alloc _
    have he : Blk w0 w.heap.size 35 [.string y.e.q.name, .int .u16 y.e.q.ty, .int .u16 y.e.q.cl, .slice y.e.ra y.l.length y.e.rc, .int .i64 y.e.rcode, .int .i64 y.e.rank, .int .u64 y.e.expire] := by rw [hw0]; exact (Blk.new _ _ _).alloc _
    have hq : Blk w0 (w.heap.size + 1) 25 [.string y.e.q.name, .int .u16 y.e.q.ty, .int .u16 y.e.q.cl] := by
      rw [hw0]
      have h0 := Blk.new (w.alloc (.cells #[.string y.e.q.name, .int .u16 y.e.q.ty, .int .u16 y.e.q.cl, .slice y.e.ra y.l.length y.e.rc, .int .i64 y.e.rcode, .int .i64 y.e.rank, .int .u64 y.e.expire] 35)) 25 [.string y.e.q.name, .int .u16 y.e.q.ty, .int .u16 y.e.q.cl]
      simp only [World.size_alloc] at h0
      exact h0
    have hD0 := hD.fr hF
    have hy0 := hy.step hF (by simp)
    clear hw0
    obtain ⟨c1_0, c1_1, c1_2, c1_f⟩ := hq.cells3
    obtain ⟨c2_0, c2_1, c2_2, c2_3, c2_4, c2_5, c2_6, c2_f⟩ := he.cells7
    go_wp2_with fail
    clear c1_0 c1_1 c1_2 c1_f c2_0 c2_1 c2_2 c2_3 c2_4 c2_5 c2_6 c2_f
    refine (shown_calls _).mono ?_
    rintro r ws ⟨rfl, hf⟩
    have hF_1 := hF.trans hf
    have hq_1 := hq.fr hf (by simp)
    have he_1 := he.fr hf (by simp)
    have hD_1 := hD0.fr hf
    have hy_1 := hy0.step hf (by simp)
    clear hF hq he hD0 hy0
    clear hf
    obtain ⟨c1_0, c1_1, c1_2, c1_f⟩ := hq_1.cells3
    obtain ⟨c2_0, c2_1, c2_2, c2_3, c2_4, c2_5, c2_6, c2_f⟩ := he_1.cells7
    go_wp2_with fail
    clear c1_0 c1_1 c1_2 c1_f c2_0 c2_1 c2_2 c2_3 c2_4 c2_5 c2_6 c2_f
    refine (ran_calls hD_1).mono ?_
    rintro r wr_ ⟨p, b, X, v_, rfl, hDS, hX5, hf, hp, hb⟩
    have hqb : w.heap.size + 1 ∉ [b] := by have := hq_1.lt; simp; omega
    have heb : w.heap.size ∉ [b] := by have := he_1.lt; simp; omega
    have hbw : w.heap.size ≤ b := by have := hF_1.size; omega
    have hye : RrOk _ (Nb p b) y := hy_1.mono fun k hk => by have := hF_1.size; exact ⟨by omega, by omega⟩
    clear hy_1
    clear hD_1
    have hF_2 := hF_1.trans hf
    have hq_2 := hq_1.fr hf (by simp)
    have he_2 := he_1.fr hf (by simp)
    have hy_2 := hye.step hf (by simp)
    clear hF_1 hq_1 he_1 hye
    clear hf hp hb
    have hM := hDS.m
    have hR := hDS.rr
    have HX5 := Hd.mk hX5
    clear hDS hX5
    obtain ⟨c1_0, c1_1, c1_2, c1_f⟩ := hq_2.cells3
    obtain ⟨c2_0, c2_1, c2_2, c2_3, c2_4, c2_5, c2_6, c2_f⟩ := he_2.cells7
    go_wp2_with fail
    clear c1_0 c1_1 c1_2 c1_f c2_0 c2_1 c2_2 c2_3 c2_4 c2_5 c2_6 c2_f
    refine (lookx_calls hM hR y.e.q now).mono ?_
    rintro r wl1 ⟨hf, A1, c1, rfl, hl1, hK1⟩
    obtain ⟨s1, es1⟩ : ∃ s, lookS (X) y.e.q now = s := ⟨_, rfl⟩
    obtain ⟨i1, ei1⟩ : ∃ i, (lookX (X) y.e.q now).isSome = i := ⟨_, rfl⟩
    rw [es1] at hl1 hK1
    rw [es1, ei1]
    have ES1 := Hd.mk es1
    have EI1 := Hd.mk ei1
    clear es1 ei1
    have hF_3 := hF_2.trans hf
    have hq_3 := hq_2.fr hf (by simp)
    have he_3 := he_2.fr hf (by simp)
    have hy_3 := hy_2.step hf (by simp)
    have hM_1 := hM.fr hf (by simp) (by simp)
    have hR_1 := fun x hx => (hR x hx).step hf (by simp)
    clear hF_2 hq_2 he_2 hy_2 hM hR
    clear hf
    obtain ⟨c1_0, c1_1, c1_2, c1_f⟩ := hq_3.cells3
    obtain ⟨c2_0, c2_1, c2_2, c2_3, c2_4, c2_5, c2_6, c2_f⟩ := he_3.cells7
    go_upto_region 4 with (fail)
    clear c1_0 c1_1 c1_2 c1_f c2_0 c2_1 c2_2 c2_3 c2_4 c2_5 c2_6 c2_f
    refine wp_name ?_
    intro w_1 hw_
    have hf_w_1 := alloc_of hw_
    have hx := blk_of (T := 35) (c := [.string s1.f0.f0, .int .u16 s1.f0.f1, .int .u16 s1.f0.f2, .slice A1 s1.f1.length c1, .int .i64 s1.f2, .int .i64 s1.f3, .int .u64 s1.f4]) hw_
    clear hw_
    have hF_4 := hF_3.trans hf_w_1
    have hq_4 := hq_3.fr hf_w_1 (by simp)
    have he_4 := he_3.fr hf_w_1 (by simp)
    have hy_4 := hy_3.step hf_w_1 (by simp)
    have hM_2 := hM_1.fr hf_w_1 (by simp) (by simp)
    have hR_2 := fun x hx => (hR_1 x hx).step hf_w_1 (by simp)
    have hK1_1 := Kd.F_step hK1 fun k hk hlt => hf_w_1.block k hlt (by simp)
    clear hF_3 hq_3 he_3 hy_3 hM_1 hR_1 hK1
    clear hf_w_1
    have hxb := blk_ne_map hM_2 hx (by decide)
    have hin := insert_calls hM_2 (by have := HX5.out; rw [List.length_map]; unfold maxLen; omega) y.e now
    unfold En.v at hin
    rw [HN.out] at hin
    obtain ⟨C, hC⟩ : ∃ C, insC (ents X) 5 y.e now = C := ⟨_, rfl⟩
    rw [hC] at hin
    have HC := Hd.mk hC
    have HI := Hd.mk hin
    clear hin hC
    obtain ⟨c1_0, c1_1, c1_2, c1_f⟩ := hq_4.cells3
    obtain ⟨c2_0, c2_1, c2_2, c2_3, c2_4, c2_5, c2_6, c2_f⟩ := he_4.cells7
    obtain ⟨c7_0, c7_1, c7_2, c7_3, c7_4, c7_5, c7_6, c7_f⟩ := hx.cells7
    go_wp2_with fail
    clear c1_0 c1_1 c1_2 c1_f c2_0 c2_1 c2_2 c2_3 c2_4 c2_5 c2_6 c2_f c7_0 c7_1 c7_2 c7_3 c7_4 c7_5 c7_6 c7_f
    refine (HI.out).mono ?_
    rintro r win ⟨rfl, hMi, hf⟩
    clear HI
    rw [← insX_ents] at hMi
    have hF_5 := hF_4.weak hf (by simpa using hbw)
    have hq_5 := hq_4.fr hf hqb
    have he_5 := he_4.fr hf heb
    have hy_5 := hy_4.frb hf
    have hR_3 := fun x hx => (hR_2 x hx).frb hf
    have hK1_2 := Kd.F_step hK1_1 fun k hk hlt => hf.block k hlt (by simpa using hk.2)
    have hx_1 := hx.fr hf hxb
    clear hF_4 hq_4 he_4 hy_4 hM_2 hR_2 hK1_1 hx
    clear hf
    have hRi : ∀ x ∈ insX X 5 y now, RrOk win (Nb p b) x := fun x hx => by
      rcases mem_insX hx with rfl | h
      · exact hy_5
      · exact hR_3 x h
    clear hR_3
    obtain ⟨X2, hX2⟩ : ∃ X2, insX X 5 y now = X2 := ⟨_, rfl⟩
    rw [hX2] at hMi hRi
    have HX2 := Hd.mk hX2
    clear hX2
    obtain ⟨c1_0, c1_1, c1_2, c1_f⟩ := hq_5.cells3
    obtain ⟨c2_0, c2_1, c2_2, c2_3, c2_4, c2_5, c2_6, c2_f⟩ := he_5.cells7
    obtain ⟨c7_0, c7_1, c7_2, c7_3, c7_4, c7_5, c7_6, c7_f⟩ := hx_1.cells7
    rcases Int.lt_or_le T now with hTn | hTn
    · have HF := Hd.mk hF_5
      clear hF_5
      go_wp2
      go_ret
      exact ⟨rfl, HF.out⟩
    · clear c1_0 c1_1 c1_2 c1_f c2_0 c2_1 c2_2 c2_3 c2_4 c2_5 c2_6 c2_f c7_0 c7_1 c7_2 c7_3 c7_4 c7_5 c7_6 c7_f
      obtain ⟨c1_0, c1_1, c1_2, c1_f⟩ := hq_5.cells3
      obtain ⟨c2_0, c2_1, c2_2, c2_3, c2_4, c2_5, c2_6, c2_f⟩ := he_5.cells7
      obtain ⟨c7_0, c7_1, c7_2, c7_3, c7_4, c7_5, c7_6, c7_f⟩ := hx_1.cells7
      go_wp2_with fail
      clear c1_0 c1_1 c1_2 c1_f c2_0 c2_1 c2_2 c2_3 c2_4 c2_5 c2_6 c2_f c7_0 c7_1 c7_2 c7_3 c7_4 c7_5 c7_6 c7_f
      refine (lookx_calls hMi hRi y.e.q T).mono ?_
      rintro r wl2 ⟨hf, A2, c2, rfl, hl2, hK2⟩
      obtain ⟨s2, es2⟩ : ∃ s, lookS (X2) y.e.q T = s := ⟨_, rfl⟩
      obtain ⟨i2, ei2⟩ : ∃ i, (lookX (X2) y.e.q T).isSome = i := ⟨_, rfl⟩
      rw [es2] at hl2 hK2
      rw [es2, ei2]
      have ES2 := Hd.mk es2
      have EI2 := Hd.mk ei2
      clear es2 ei2
      have hF_6 := hF_5.trans hf
      have hq_6 := hq_5.fr hf (by simp)
      have he_6 := he_5.fr hf (by simp)
      have hy_6 := hy_5.step hf (by simp)
      have hM_4 := hMi.fr hf (by simp) (by simp)
      have hR_4 := fun x hx => (hRi x hx).step hf (by simp)
      have hK1_3 := Kd.F_step hK1_2 fun k hk hlt => hf.block k hlt (by simp)
      have hx_2 := hx_1.fr hf (by simp)
      clear hF_5 hq_5 he_5 hy_5 hMi hRi hK1_2 hx_1
      clear hf
      rcases i2 with _ | _
      · obtain ⟨c1_0, c1_1, c1_2, c1_f⟩ := hq_6.cells3
        obtain ⟨c2_0, c2_1, c2_2, c2_3, c2_4, c2_5, c2_6, c2_f⟩ := he_6.cells7
        obtain ⟨c7_0, c7_1, c7_2, c7_3, c7_4, c7_5, c7_6, c7_f⟩ := hx_2.cells7
        go_upto_region 9 with (fail)
        clear c1_0 c1_1 c1_2 c1_f c2_0 c2_1 c2_2 c2_3 c2_4 c2_5 c2_6 c2_f c7_0 c7_1 c7_2 c7_3 c7_4 c7_5 c7_6 c7_f
        refine wp_name ?_
        intro w_2 hw_
        have hf_w_2 := alloc_of hw_
        have hx2 := blk_of (T := 35) (c := [.string s2.f0.f0, .int .u16 s2.f0.f1, .int .u16 s2.f0.f2, .slice A2 s2.f1.length c2, .int .i64 s2.f2, .int .i64 s2.f3, .int .u64 s2.f4]) hw_
        clear hw_
        have hF_7 := hF_6.trans hf_w_2
        have hq_7 := hq_6.fr hf_w_2 (by simp)
        have he_7 := he_6.fr hf_w_2 (by simp)
        have hy_7 := hy_6.step hf_w_2 (by simp)
        have hM_5 := hM_4.fr hf_w_2 (by simp) (by simp)
        have hR_5 := fun x hx => (hR_4 x hx).step hf_w_2 (by simp)
        have hK1_4 := Kd.F_step hK1_3 fun k hk hlt => hf_w_2.block k hlt (by simp)
        have hx_3 := hx_2.fr hf_w_2 (by simp)
        have hK2_1 := Kd.F_step hK2 fun k hk hlt => hf_w_2.block k hlt (by simp)
        clear hF_6 hq_6 he_6 hy_6 hM_4 hR_4 hK1_3 hx_2 hK2
        clear hf_w_2
        obtain ⟨c1_0, c1_1, c1_2, c1_f⟩ := hq_7.cells3
        obtain ⟨c2_0, c2_1, c2_2, c2_3, c2_4, c2_5, c2_6, c2_f⟩ := he_7.cells7
        obtain ⟨c7_0, c7_1, c7_2, c7_3, c7_4, c7_5, c7_6, c7_f⟩ := hx_3.cells7
        obtain ⟨c9_0, c9_1, c9_2, c9_3, c9_4, c9_5, c9_6, c9_f⟩ := hx2.cells7
        go_wp2_with fail
        clear c1_0 c1_1 c1_2 c1_f c2_0 c2_1 c2_2 c2_3 c2_4 c2_5 c2_6 c2_f c7_0 c7_1 c7_2 c7_3 c7_4 c7_5 c7_6 c7_f c9_0 c9_1 c9_2 c9_3 c9_4 c9_5 c9_6 c9_f
        refine (lookx_calls hM_5 hR_5 y.e.q T).mono ?_
        rintro r wl3 ⟨hf, A3, c3, rfl, hl3, hK3⟩
        obtain ⟨s3, es3⟩ : ∃ s, lookS (X2) y.e.q T = s := ⟨_, rfl⟩
        obtain ⟨i3, ei3⟩ : ∃ i, (lookX (X2) y.e.q T).isSome = i := ⟨_, rfl⟩
        rw [es3] at hl3 hK3
        rw [es3, ei3]
        have ES3 := Hd.mk es3
        have EI3 := Hd.mk ei3
        clear es3 ei3
        have hF_8 := hF_7.trans hf
        have hq_8 := hq_7.fr hf (by simp)
        have he_8 := he_7.fr hf (by simp)
        have hy_8 := hy_7.step hf (by simp)
        have hM_6 := hM_5.fr hf (by simp) (by simp)
        have hR_6 := fun x hx => (hR_5 x hx).step hf (by simp)
        have hK1_5 := Kd.F_step hK1_4 fun k hk hlt => hf.block k hlt (by simp)
        have hx_4 := hx_3.fr hf (by simp)
        have hK2_2 := Kd.F_step hK2_1 fun k hk hlt => hf.block k hlt (by simp)
        have hx2_1 := hx2.fr hf (by simp)
        clear hF_7 hq_7 he_7 hy_7 hM_5 hR_5 hK1_4 hx_3 hK2_1 hx2
        clear hf
        have hs3 : s2 = s3 := by rw [← ES2.out, ← ES3.out]
        have hi3 : i3 = false := by rw [← EI3.out, EI2.out]
        subst hs3 hi3
        obtain ⟨c1_0, c1_1, c1_2, c1_f⟩ := hq_8.cells3
        obtain ⟨c2_0, c2_1, c2_2, c2_3, c2_4, c2_5, c2_6, c2_f⟩ := he_8.cells7
        obtain ⟨c7_0, c7_1, c7_2, c7_3, c7_4, c7_5, c7_6, c7_f⟩ := hx_4.cells7
        obtain ⟨c9_0, c9_1, c9_2, c9_3, c9_4, c9_5, c9_6, c9_f⟩ := hx2_1.cells7
        go_upto_region 10 with (fail)
        clear c1_0 c1_1 c1_2 c1_f c2_0 c2_1 c2_2 c2_3 c2_4 c2_5 c2_6 c2_f c7_0 c7_1 c7_2 c7_3 c7_4 c7_5 c7_6 c7_f c9_0 c9_1 c9_2 c9_3 c9_4 c9_5 c9_6 c9_f
        refine wp_name ?_
        intro w_3 hw_
        have hf_w_3 := alloc_of hw_
        have hx3 := blk_of (T := 35) (c := [.string s2.f0.f0, .int .u16 s2.f0.f1, .int .u16 s2.f0.f2, .slice A3 s2.f1.length c3, .int .i64 s2.f2, .int .i64 s2.f3, .int .u64 s2.f4]) hw_
        clear hw_
        have hF_9 := hF_8.trans hf_w_3
        have hq_9 := hq_8.fr hf_w_3 (by simp)
        have he_9 := he_8.fr hf_w_3 (by simp)
        have hy_9 := hy_8.step hf_w_3 (by simp)
        have hM_7 := hM_6.fr hf_w_3 (by simp) (by simp)
        have hR_7 := fun x hx => (hR_6 x hx).step hf_w_3 (by simp)
        have hK1_6 := Kd.F_step hK1_5 fun k hk hlt => hf_w_3.block k hlt (by simp)
        have hx_5 := hx_4.fr hf_w_3 (by simp)
        have hK2_3 := Kd.F_step hK2_2 fun k hk hlt => hf_w_3.block k hlt (by simp)
        have hx2_2 := hx2_1.fr hf_w_3 (by simp)
        have hK3_1 := Kd.F_step hK3 fun k hk hlt => hf_w_3.block k hlt (by simp)
        clear hF_8 hq_8 he_8 hy_8 hM_6 hR_6 hK1_5 hx_4 hK2_2 hx2_1 hK3
        clear hf_w_3
        obtain ⟨c1_0, c1_1, c1_2, c1_f⟩ := hq_9.cells3
        obtain ⟨c2_0, c2_1, c2_2, c2_3, c2_4, c2_5, c2_6, c2_f⟩ := he_9.cells7
        obtain ⟨c7_0, c7_1, c7_2, c7_3, c7_4, c7_5, c7_6, c7_f⟩ := hx_5.cells7
        obtain ⟨c9_0, c9_1, c9_2, c9_3, c9_4, c9_5, c9_6, c9_f⟩ := hx2_2.cells7
        obtain ⟨c11_0, c11_1, c11_2, c11_3, c11_4, c11_5, c11_6, c11_f⟩ := hx3.cells7
        go_wp2_with fail
        clear c1_0 c1_1 c1_2 c1_f c2_0 c2_1 c2_2 c2_3 c2_4 c2_5 c2_6 c2_f c7_0 c7_1 c7_2 c7_3 c7_4 c7_5 c7_6 c7_f c9_0 c9_1 c9_2 c9_3 c9_4 c9_5 c9_6 c9_f c11_0 c11_1 c11_2 c11_3 c11_4 c11_5 c11_6 c11_f
        refine (lookx_calls hM_7 hR_7 y.e.q now).mono ?_
        rintro r wl4 ⟨hf, A4, c4, rfl, hl4, hK4⟩
        obtain ⟨s4, es4⟩ : ∃ s, lookS (X2) y.e.q now = s := ⟨_, rfl⟩
        obtain ⟨i4, ei4⟩ : ∃ i, (lookX (X2) y.e.q now).isSome = i := ⟨_, rfl⟩
        rw [es4] at hl4 hK4
        rw [es4, ei4]
        have ES4 := Hd.mk es4
        have EI4 := Hd.mk ei4
        clear es4 ei4
        have hF_10 := hF_9.trans hf
        have hq_10 := hq_9.fr hf (by simp)
        have he_10 := he_9.fr hf (by simp)
        have hy_10 := hy_9.step hf (by simp)
        have hM_8 := hM_7.fr hf (by simp) (by simp)
        have hR_8 := fun x hx => (hR_7 x hx).step hf (by simp)
        have hK1_7 := Kd.F_step hK1_6 fun k hk hlt => hf.block k hlt (by simp)
        have hx_6 := hx_5.fr hf (by simp)
        have hK2_4 := Kd.F_step hK2_3 fun k hk hlt => hf.block k hlt (by simp)
        have hx2_3 := hx2_2.fr hf (by simp)
        have hK3_2 := Kd.F_step hK3_1 fun k hk hlt => hf.block k hlt (by simp)
        have hx3_1 := hx3.fr hf (by simp)
        clear hF_9 hq_9 he_9 hy_9 hM_7 hR_7 hK1_6 hx_5 hK2_3 hx2_2 hK3_1 hx3
        clear hf
        obtain ⟨c1_0, c1_1, c1_2, c1_f⟩ := hq_10.cells3
        obtain ⟨c2_0, c2_1, c2_2, c2_3, c2_4, c2_5, c2_6, c2_f⟩ := he_10.cells7
        obtain ⟨c7_0, c7_1, c7_2, c7_3, c7_4, c7_5, c7_6, c7_f⟩ := hx_6.cells7
        obtain ⟨c9_0, c9_1, c9_2, c9_3, c9_4, c9_5, c9_6, c9_f⟩ := hx2_3.cells7
        obtain ⟨c11_0, c11_1, c11_2, c11_3, c11_4, c11_5, c11_6, c11_f⟩ := hx3_1.cells7
        go_upto_region 11 with (fail)
        clear c1_0 c1_1 c1_2 c1_f c2_0 c2_1 c2_2 c2_3 c2_4 c2_5 c2_6 c2_f c7_0 c7_1 c7_2 c7_3 c7_4 c7_5 c7_6 c7_f c9_0 c9_1 c9_2 c9_3 c9_4 c9_5 c9_6 c9_f c11_0 c11_1 c11_2 c11_3 c11_4 c11_5 c11_6 c11_f
        refine wp_name ?_
        intro w_4 hw_
        have hf_w_4 := alloc_of hw_
        have hx4 := blk_of (T := 35) (c := [.string s4.f0.f0, .int .u16 s4.f0.f1, .int .u16 s4.f0.f2, .slice A4 s4.f1.length c4, .int .i64 s4.f2, .int .i64 s4.f3, .int .u64 s4.f4]) hw_
        clear hw_
        have hF_11 := hF_10.trans hf_w_4
        have hq_11 := hq_10.fr hf_w_4 (by simp)
        have he_11 := he_10.fr hf_w_4 (by simp)
        have hy_11 := hy_10.step hf_w_4 (by simp)
        have hM_9 := hM_8.fr hf_w_4 (by simp) (by simp)
        have hR_9 := fun x hx => (hR_8 x hx).step hf_w_4 (by simp)
        have hK1_8 := Kd.F_step hK1_7 fun k hk hlt => hf_w_4.block k hlt (by simp)
        have hx_7 := hx_6.fr hf_w_4 (by simp)
        have hK2_5 := Kd.F_step hK2_4 fun k hk hlt => hf_w_4.block k hlt (by simp)
        have hx2_4 := hx2_3.fr hf_w_4 (by simp)
        have hK3_3 := Kd.F_step hK3_2 fun k hk hlt => hf_w_4.block k hlt (by simp)
        have hx3_2 := hx3_1.fr hf_w_4 (by simp)
        have hK4_1 := Kd.F_step hK4 fun k hk hlt => hf_w_4.block k hlt (by simp)
        clear hF_10 hq_10 he_10 hy_10 hM_8 hR_8 hK1_7 hx_6 hK2_4 hx2_3 hK3_2 hx3_1 hK4
        clear hf_w_4
        obtain ⟨c1_0, c1_1, c1_2, c1_f⟩ := hq_11.cells3
        obtain ⟨c2_0, c2_1, c2_2, c2_3, c2_4, c2_5, c2_6, c2_f⟩ := he_11.cells7
        obtain ⟨c7_0, c7_1, c7_2, c7_3, c7_4, c7_5, c7_6, c7_f⟩ := hx_7.cells7
        obtain ⟨c9_0, c9_1, c9_2, c9_3, c9_4, c9_5, c9_6, c9_f⟩ := hx2_4.cells7
        obtain ⟨c11_0, c11_1, c11_2, c11_3, c11_4, c11_5, c11_6, c11_f⟩ := hx3_2.cells7
        obtain ⟨c13_0, c13_1, c13_2, c13_3, c13_4, c13_5, c13_6, c13_f⟩ := hx4.cells7
        go_wp2_with fail
        clear c1_0 c1_1 c1_2 c1_f c2_0 c2_1 c2_2 c2_3 c2_4 c2_5 c2_6 c2_f c7_0 c7_1 c7_2 c7_3 c7_4 c7_5 c7_6 c7_f c9_0 c9_1 c9_2 c9_3 c9_4 c9_5 c9_6 c9_f c11_0 c11_1 c11_2 c11_3 c11_4 c11_5 c11_6 c11_f c13_0 c13_1 c13_2 c13_3 c13_4 c13_5 c13_6 c13_f
        with_reducible refine (same_kd s2 hK2_5 hl2 hK3_3 hl3).mono ?_
        rintro r wsm ⟨rfl, hf⟩
        have hF_12 := hF_11.trans hf
        have hq_12 := hq_11.fr hf (by simp)
        have he_12 := he_11.fr hf (by simp)
        have hy_12 := hy_11.step hf (by simp)
        have hM_10 := hM_9.fr hf (by simp) (by simp)
        have hR_10 := fun x hx => (hR_9 x hx).step hf (by simp)
        have hK1_9 := Kd.F_step hK1_8 fun k hk hlt => hf.block k hlt (by simp)
        have hx_8 := hx_7.fr hf (by simp)
        have hK2_6 := Kd.F_step hK2_5 fun k hk hlt => hf.block k hlt (by simp)
        have hx2_5 := hx2_4.fr hf (by simp)
        have hK3_4 := Kd.F_step hK3_3 fun k hk hlt => hf.block k hlt (by simp)
        have hx3_3 := hx3_2.fr hf (by simp)
        have hK4_2 := Kd.F_step hK4_1 fun k hk hlt => hf.block k hlt (by simp)
        have hx4_1 := hx4.fr hf (by simp)
        clear hF_11 hq_11 he_11 hy_11 hM_9 hR_9 hK1_8 hx_7 hK2_5 hx2_4 hK3_3 hx3_2 hK4_1 hx4
        clear hf
        by_cases hC0 : C = 0
        · have hln := lookX_new (X := X) (room := 5) (now := now) (y := y) (by rw [HC.out, hC0]) T
          rw [HX2.out] at hln
          have hgt : decide (y.e.expire > T) = false := by
            have h1 := EI2.out
            rw [hln] at h1
            unfold liveB at h1
            cases h2 : decide (y.e.expire > T) <;> rw [h2] at h1 <;> simp_all
          clear hln
          obtain ⟨c1_0, c1_1, c1_2, c1_f⟩ := hq_12.cells3
          obtain ⟨c2_0, c2_1, c2_2, c2_3, c2_4, c2_5, c2_6, c2_f⟩ := he_12.cells7
          obtain ⟨c7_0, c7_1, c7_2, c7_3, c7_4, c7_5, c7_6, c7_f⟩ := hx_8.cells7
          obtain ⟨c9_0, c9_1, c9_2, c9_3, c9_4, c9_5, c9_6, c9_f⟩ := hx2_5.cells7
          obtain ⟨c11_0, c11_1, c11_2, c11_3, c11_4, c11_5, c11_6, c11_f⟩ := hx3_3.cells7
          obtain ⟨c13_0, c13_1, c13_2, c13_3, c13_4, c13_5, c13_6, c13_f⟩ := hx4_1.cells7
          have HF := Hd.mk hF_12
          clear hF_12
          go_wp2
          go_ret
          exact ⟨rfl, HF.out⟩
        · obtain ⟨c1_0, c1_1, c1_2, c1_f⟩ := hq_12.cells3
          obtain ⟨c2_0, c2_1, c2_2, c2_3, c2_4, c2_5, c2_6, c2_f⟩ := he_12.cells7
          obtain ⟨c7_0, c7_1, c7_2, c7_3, c7_4, c7_5, c7_6, c7_f⟩ := hx_8.cells7
          obtain ⟨c9_0, c9_1, c9_2, c9_3, c9_4, c9_5, c9_6, c9_f⟩ := hx2_5.cells7
          obtain ⟨c11_0, c11_1, c11_2, c11_3, c11_4, c11_5, c11_6, c11_f⟩ := hx3_3.cells7
          obtain ⟨c13_0, c13_1, c13_2, c13_3, c13_4, c13_5, c13_6, c13_f⟩ := hx4_1.cells7
          have HF := Hd.mk hF_12
          clear hF_12
          go_wp2
          go_ret
          exact ⟨rfl, HF.out⟩
      · obtain ⟨c1_0, c1_1, c1_2, c1_f⟩ := hq_6.cells3
        obtain ⟨c2_0, c2_1, c2_2, c2_3, c2_4, c2_5, c2_6, c2_f⟩ := he_6.cells7
        obtain ⟨c7_0, c7_1, c7_2, c7_3, c7_4, c7_5, c7_6, c7_f⟩ := hx_2.cells7
        go_upto_region 9 with (fail)
        clear c1_0 c1_1 c1_2 c1_f c2_0 c2_1 c2_2 c2_3 c2_4 c2_5 c2_6 c2_f c7_0 c7_1 c7_2 c7_3 c7_4 c7_5 c7_6 c7_f
        refine wp_name ?_
        intro w_2 hw_
        have hf_w_2 := alloc_of hw_
        have hx2 := blk_of (T := 35) (c := [.string s2.f0.f0, .int .u16 s2.f0.f1, .int .u16 s2.f0.f2, .slice A2 s2.f1.length c2, .int .i64 s2.f2, .int .i64 s2.f3, .int .u64 s2.f4]) hw_
        clear hw_
        have hF_7 := hF_6.trans hf_w_2
        have hq_7 := hq_6.fr hf_w_2 (by simp)
        have he_7 := he_6.fr hf_w_2 (by simp)
        have hy_7 := hy_6.step hf_w_2 (by simp)
        have hM_5 := hM_4.fr hf_w_2 (by simp) (by simp)
        have hR_5 := fun x hx => (hR_4 x hx).step hf_w_2 (by simp)
        have hK1_4 := Kd.F_step hK1_3 fun k hk hlt => hf_w_2.block k hlt (by simp)
        have hx_3 := hx_2.fr hf_w_2 (by simp)
        have hK2_1 := Kd.F_step hK2 fun k hk hlt => hf_w_2.block k hlt (by simp)
        clear hF_6 hq_6 he_6 hy_6 hM_4 hR_4 hK1_3 hx_2 hK2
        clear hf_w_2
        obtain ⟨c1_0, c1_1, c1_2, c1_f⟩ := hq_7.cells3
        obtain ⟨c2_0, c2_1, c2_2, c2_3, c2_4, c2_5, c2_6, c2_f⟩ := he_7.cells7
        obtain ⟨c7_0, c7_1, c7_2, c7_3, c7_4, c7_5, c7_6, c7_f⟩ := hx_3.cells7
        obtain ⟨c9_0, c9_1, c9_2, c9_3, c9_4, c9_5, c9_6, c9_f⟩ := hx2.cells7
        go_wp2_with fail
        clear c1_0 c1_1 c1_2 c1_f c2_0 c2_1 c2_2 c2_3 c2_4 c2_5 c2_6 c2_f c7_0 c7_1 c7_2 c7_3 c7_4 c7_5 c7_6 c7_f c9_0 c9_1 c9_2 c9_3 c9_4 c9_5 c9_6 c9_f
        refine (lookx_calls hM_5 hR_5 y.e.q T).mono ?_
        rintro r wl3 ⟨hf, A3, c3, rfl, hl3, hK3⟩
        obtain ⟨s3, es3⟩ : ∃ s, lookS (X2) y.e.q T = s := ⟨_, rfl⟩
        obtain ⟨i3, ei3⟩ : ∃ i, (lookX (X2) y.e.q T).isSome = i := ⟨_, rfl⟩
        rw [es3] at hl3 hK3
        rw [es3, ei3]
        have ES3 := Hd.mk es3
        have EI3 := Hd.mk ei3
        clear es3 ei3
        have hF_8 := hF_7.trans hf
        have hq_8 := hq_7.fr hf (by simp)
        have he_8 := he_7.fr hf (by simp)
        have hy_8 := hy_7.step hf (by simp)
        have hM_6 := hM_5.fr hf (by simp) (by simp)
        have hR_6 := fun x hx => (hR_5 x hx).step hf (by simp)
        have hK1_5 := Kd.F_step hK1_4 fun k hk hlt => hf.block k hlt (by simp)
        have hx_4 := hx_3.fr hf (by simp)
        have hK2_2 := Kd.F_step hK2_1 fun k hk hlt => hf.block k hlt (by simp)
        have hx2_1 := hx2.fr hf (by simp)
        clear hF_7 hq_7 he_7 hy_7 hM_5 hR_5 hK1_4 hx_3 hK2_1 hx2
        clear hf
        have hs3 : s2 = s3 := by rw [← ES2.out, ← ES3.out]
        have hi3 : i3 = true := by rw [← EI3.out, EI2.out]
        subst hs3 hi3
        obtain ⟨c1_0, c1_1, c1_2, c1_f⟩ := hq_8.cells3
        obtain ⟨c2_0, c2_1, c2_2, c2_3, c2_4, c2_5, c2_6, c2_f⟩ := he_8.cells7
        obtain ⟨c7_0, c7_1, c7_2, c7_3, c7_4, c7_5, c7_6, c7_f⟩ := hx_4.cells7
        obtain ⟨c9_0, c9_1, c9_2, c9_3, c9_4, c9_5, c9_6, c9_f⟩ := hx2_1.cells7
        go_upto_region 10 with (fail)
        clear c1_0 c1_1 c1_2 c1_f c2_0 c2_1 c2_2 c2_3 c2_4 c2_5 c2_6 c2_f c7_0 c7_1 c7_2 c7_3 c7_4 c7_5 c7_6 c7_f c9_0 c9_1 c9_2 c9_3 c9_4 c9_5 c9_6 c9_f
        refine wp_name ?_
        intro w_3 hw_
        have hf_w_3 := alloc_of hw_
        have hx3 := blk_of (T := 35) (c := [.string s2.f0.f0, .int .u16 s2.f0.f1, .int .u16 s2.f0.f2, .slice A3 s2.f1.length c3, .int .i64 s2.f2, .int .i64 s2.f3, .int .u64 s2.f4]) hw_
        clear hw_
        have hF_9 := hF_8.trans hf_w_3
        have hq_9 := hq_8.fr hf_w_3 (by simp)
        have he_9 := he_8.fr hf_w_3 (by simp)
        have hy_9 := hy_8.step hf_w_3 (by simp)
        have hM_7 := hM_6.fr hf_w_3 (by simp) (by simp)
        have hR_7 := fun x hx => (hR_6 x hx).step hf_w_3 (by simp)
        have hK1_6 := Kd.F_step hK1_5 fun k hk hlt => hf_w_3.block k hlt (by simp)
        have hx_5 := hx_4.fr hf_w_3 (by simp)
        have hK2_3 := Kd.F_step hK2_2 fun k hk hlt => hf_w_3.block k hlt (by simp)
        have hx2_2 := hx2_1.fr hf_w_3 (by simp)
        have hK3_1 := Kd.F_step hK3 fun k hk hlt => hf_w_3.block k hlt (by simp)
        clear hF_8 hq_8 he_8 hy_8 hM_6 hR_6 hK1_5 hx_4 hK2_2 hx2_1 hK3
        clear hf_w_3
        obtain ⟨c1_0, c1_1, c1_2, c1_f⟩ := hq_9.cells3
        obtain ⟨c2_0, c2_1, c2_2, c2_3, c2_4, c2_5, c2_6, c2_f⟩ := he_9.cells7
        obtain ⟨c7_0, c7_1, c7_2, c7_3, c7_4, c7_5, c7_6, c7_f⟩ := hx_5.cells7
        obtain ⟨c9_0, c9_1, c9_2, c9_3, c9_4, c9_5, c9_6, c9_f⟩ := hx2_2.cells7
        obtain ⟨c11_0, c11_1, c11_2, c11_3, c11_4, c11_5, c11_6, c11_f⟩ := hx3.cells7
        go_wp2_with fail
        clear c1_0 c1_1 c1_2 c1_f c2_0 c2_1 c2_2 c2_3 c2_4 c2_5 c2_6 c2_f c7_0 c7_1 c7_2 c7_3 c7_4 c7_5 c7_6 c7_f c9_0 c9_1 c9_2 c9_3 c9_4 c9_5 c9_6 c9_f c11_0 c11_1 c11_2 c11_3 c11_4 c11_5 c11_6 c11_f
        refine (lookx_calls hM_7 hR_7 y.e.q now).mono ?_
        rintro r wl4 ⟨hf, A4, c4, rfl, hl4, hK4⟩
        obtain ⟨s4, es4⟩ : ∃ s, lookS (X2) y.e.q now = s := ⟨_, rfl⟩
        obtain ⟨i4, ei4⟩ : ∃ i, (lookX (X2) y.e.q now).isSome = i := ⟨_, rfl⟩
        rw [es4] at hl4 hK4
        rw [es4, ei4]
        have ES4 := Hd.mk es4
        have EI4 := Hd.mk ei4
        clear es4 ei4
        have hF_10 := hF_9.trans hf
        have hq_10 := hq_9.fr hf (by simp)
        have he_10 := he_9.fr hf (by simp)
        have hy_10 := hy_9.step hf (by simp)
        have hM_8 := hM_7.fr hf (by simp) (by simp)
        have hR_8 := fun x hx => (hR_7 x hx).step hf (by simp)
        have hK1_7 := Kd.F_step hK1_6 fun k hk hlt => hf.block k hlt (by simp)
        have hx_6 := hx_5.fr hf (by simp)
        have hK2_4 := Kd.F_step hK2_3 fun k hk hlt => hf.block k hlt (by simp)
        have hx2_3 := hx2_2.fr hf (by simp)
        have hK3_2 := Kd.F_step hK3_1 fun k hk hlt => hf.block k hlt (by simp)
        have hx3_1 := hx3.fr hf (by simp)
        clear hF_9 hq_9 he_9 hy_9 hM_7 hR_7 hK1_6 hx_5 hK2_3 hx2_2 hK3_1 hx3
        clear hf
        obtain ⟨c1_0, c1_1, c1_2, c1_f⟩ := hq_10.cells3
        obtain ⟨c2_0, c2_1, c2_2, c2_3, c2_4, c2_5, c2_6, c2_f⟩ := he_10.cells7
        obtain ⟨c7_0, c7_1, c7_2, c7_3, c7_4, c7_5, c7_6, c7_f⟩ := hx_6.cells7
        obtain ⟨c9_0, c9_1, c9_2, c9_3, c9_4, c9_5, c9_6, c9_f⟩ := hx2_3.cells7
        obtain ⟨c11_0, c11_1, c11_2, c11_3, c11_4, c11_5, c11_6, c11_f⟩ := hx3_1.cells7
        go_upto_region 11 with (fail)
        clear c1_0 c1_1 c1_2 c1_f c2_0 c2_1 c2_2 c2_3 c2_4 c2_5 c2_6 c2_f c7_0 c7_1 c7_2 c7_3 c7_4 c7_5 c7_6 c7_f c9_0 c9_1 c9_2 c9_3 c9_4 c9_5 c9_6 c9_f c11_0 c11_1 c11_2 c11_3 c11_4 c11_5 c11_6 c11_f
        refine wp_name ?_
        intro w_4 hw_
        have hf_w_4 := alloc_of hw_
        have hx4 := blk_of (T := 35) (c := [.string s4.f0.f0, .int .u16 s4.f0.f1, .int .u16 s4.f0.f2, .slice A4 s4.f1.length c4, .int .i64 s4.f2, .int .i64 s4.f3, .int .u64 s4.f4]) hw_
        clear hw_
        have hF_11 := hF_10.trans hf_w_4
        have hq_11 := hq_10.fr hf_w_4 (by simp)
        have he_11 := he_10.fr hf_w_4 (by simp)
        have hy_11 := hy_10.step hf_w_4 (by simp)
        have hM_9 := hM_8.fr hf_w_4 (by simp) (by simp)
        have hR_9 := fun x hx => (hR_8 x hx).step hf_w_4 (by simp)
        have hK1_8 := Kd.F_step hK1_7 fun k hk hlt => hf_w_4.block k hlt (by simp)
        have hx_7 := hx_6.fr hf_w_4 (by simp)
        have hK2_5 := Kd.F_step hK2_4 fun k hk hlt => hf_w_4.block k hlt (by simp)
        have hx2_4 := hx2_3.fr hf_w_4 (by simp)
        have hK3_3 := Kd.F_step hK3_2 fun k hk hlt => hf_w_4.block k hlt (by simp)
        have hx3_2 := hx3_1.fr hf_w_4 (by simp)
        have hK4_1 := Kd.F_step hK4 fun k hk hlt => hf_w_4.block k hlt (by simp)
        clear hF_10 hq_10 he_10 hy_10 hM_8 hR_8 hK1_7 hx_6 hK2_4 hx2_3 hK3_2 hx3_1 hK4
        clear hf_w_4
        obtain ⟨c1_0, c1_1, c1_2, c1_f⟩ := hq_11.cells3
        obtain ⟨c2_0, c2_1, c2_2, c2_3, c2_4, c2_5, c2_6, c2_f⟩ := he_11.cells7
        obtain ⟨c7_0, c7_1, c7_2, c7_3, c7_4, c7_5, c7_6, c7_f⟩ := hx_7.cells7
        obtain ⟨c9_0, c9_1, c9_2, c9_3, c9_4, c9_5, c9_6, c9_f⟩ := hx2_4.cells7
        obtain ⟨c11_0, c11_1, c11_2, c11_3, c11_4, c11_5, c11_6, c11_f⟩ := hx3_2.cells7
        obtain ⟨c13_0, c13_1, c13_2, c13_3, c13_4, c13_5, c13_6, c13_f⟩ := hx4.cells7
        go_wp2_with fail
        clear c1_0 c1_1 c1_2 c1_f c2_0 c2_1 c2_2 c2_3 c2_4 c2_5 c2_6 c2_f c7_0 c7_1 c7_2 c7_3 c7_4 c7_5 c7_6 c7_f c9_0 c9_1 c9_2 c9_3 c9_4 c9_5 c9_6 c9_f c11_0 c11_1 c11_2 c11_3 c11_4 c11_5 c11_6 c11_f c13_0 c13_1 c13_2 c13_3 c13_4 c13_5 c13_6 c13_f
        with_reducible refine (same_kd s2 hK2_5 hl2 hK3_3 hl3).mono ?_
        rintro r wsm ⟨rfl, hf⟩
        have hF_12 := hF_11.trans hf
        have hq_12 := hq_11.fr hf (by simp)
        have he_12 := he_11.fr hf (by simp)
        have hy_12 := hy_11.step hf (by simp)
        have hM_10 := hM_9.fr hf (by simp) (by simp)
        have hR_10 := fun x hx => (hR_9 x hx).step hf (by simp)
        have hK1_9 := Kd.F_step hK1_8 fun k hk hlt => hf.block k hlt (by simp)
        have hx_8 := hx_7.fr hf (by simp)
        have hK2_6 := Kd.F_step hK2_5 fun k hk hlt => hf.block k hlt (by simp)
        have hx2_5 := hx2_4.fr hf (by simp)
        have hK3_4 := Kd.F_step hK3_3 fun k hk hlt => hf.block k hlt (by simp)
        have hx3_3 := hx3_2.fr hf (by simp)
        have hK4_2 := Kd.F_step hK4_1 fun k hk hlt => hf.block k hlt (by simp)
        have hx4_1 := hx4.fr hf (by simp)
        clear hF_11 hq_11 he_11 hy_11 hM_9 hR_9 hK1_8 hx_7 hK2_5 hx2_4 hK3_3 hx3_2 hK4_1 hx4
        clear hf
        by_cases hC0 : C = 0
        · have hln := lookX_new (X := X) (room := 5) (now := now) (y := y) (by rw [HC.out, hC0]) T
          rw [HX2.out] at hln
          have hgt : decide (y.e.expire > T) = true := by
            have h1 := EI2.out
            rw [hln] at h1
            unfold liveB at h1
            cases h2 : decide (y.e.expire > T) <;> rw [h2] at h1 <;> simp_all
          have hs2 : s2 = y.s := by
            rw [← ES2.out]
            unfold lookS
            rw [hln]
            unfold liveB
            rw [hgt]
            rfl
          clear hln
          subst hs2
          obtain ⟨c1_0, c1_1, c1_2, c1_f⟩ := hq_12.cells3
          obtain ⟨c2_0, c2_1, c2_2, c2_3, c2_4, c2_5, c2_6, c2_f⟩ := he_12.cells7
          obtain ⟨c7_0, c7_1, c7_2, c7_3, c7_4, c7_5, c7_6, c7_f⟩ := hx_8.cells7
          obtain ⟨c9_0, c9_1, c9_2, c9_3, c9_4, c9_5, c9_6, c9_f⟩ := hx2_5.cells7
          obtain ⟨c11_0, c11_1, c11_2, c11_3, c11_4, c11_5, c11_6, c11_f⟩ := hx3_3.cells7
          obtain ⟨c13_0, c13_1, c13_2, c13_3, c13_4, c13_5, c13_6, c13_f⟩ := hx4_1.cells7
          go_wp2_with fail
          clear c1_0 c1_1 c1_2 c1_f c2_0 c2_1 c2_2 c2_3 c2_4 c2_5 c2_6 c2_f c7_0 c7_1 c7_2 c7_3 c7_4 c7_5 c7_6 c7_f c9_0 c9_1 c9_2 c9_3 c9_4 c9_5 c9_6 c9_f c11_0 c11_1 c11_2 c11_3 c11_4 c11_5 c11_6 c11_f c13_0 c13_1 c13_2 c13_3 c13_4 c13_5 c13_6 c13_f
          refine (same_kd y.s hK2_6 hl2 hy_12.f hy_12.c).mono ?_
          rintro r wso ⟨rfl, hf⟩
          have hF_13 := hF_12.trans hf
          have hq_13 := hq_12.fr hf (by simp)
          have he_13 := he_12.fr hf (by simp)
          have hy_13 := hy_12.step hf (by simp)
          have hM_11 := hM_10.fr hf (by simp) (by simp)
          have hR_11 := fun x hx => (hR_10 x hx).step hf (by simp)
          have hK1_10 := Kd.F_step hK1_9 fun k hk hlt => hf.block k hlt (by simp)
          have hx_9 := hx_8.fr hf (by simp)
          have hK2_7 := Kd.F_step hK2_6 fun k hk hlt => hf.block k hlt (by simp)
          have hx2_6 := hx2_5.fr hf (by simp)
          have hK3_5 := Kd.F_step hK3_4 fun k hk hlt => hf.block k hlt (by simp)
          have hx3_4 := hx3_3.fr hf (by simp)
          have hK4_3 := Kd.F_step hK4_2 fun k hk hlt => hf.block k hlt (by simp)
          have hx4_2 := hx4_1.fr hf (by simp)
          clear hF_12 hq_12 he_12 hy_12 hM_10 hR_10 hK1_9 hx_8 hK2_6 hx2_5 hK3_4 hx3_3 hK4_2 hx4_1
          clear hf
          obtain ⟨c1_0, c1_1, c1_2, c1_f⟩ := hq_13.cells3
          obtain ⟨c2_0, c2_1, c2_2, c2_3, c2_4, c2_5, c2_6, c2_f⟩ := he_13.cells7
          obtain ⟨c7_0, c7_1, c7_2, c7_3, c7_4, c7_5, c7_6, c7_f⟩ := hx_9.cells7
          obtain ⟨c9_0, c9_1, c9_2, c9_3, c9_4, c9_5, c9_6, c9_f⟩ := hx2_6.cells7
          obtain ⟨c11_0, c11_1, c11_2, c11_3, c11_4, c11_5, c11_6, c11_f⟩ := hx3_4.cells7
          obtain ⟨c13_0, c13_1, c13_2, c13_3, c13_4, c13_5, c13_6, c13_f⟩ := hx4_2.cells7
          have HF := Hd.mk hF_13
          clear hF_13
          go_wp2
          go_ret
          exact ⟨rfl, HF.out⟩
        · obtain ⟨c1_0, c1_1, c1_2, c1_f⟩ := hq_12.cells3
          obtain ⟨c2_0, c2_1, c2_2, c2_3, c2_4, c2_5, c2_6, c2_f⟩ := he_12.cells7
          obtain ⟨c7_0, c7_1, c7_2, c7_3, c7_4, c7_5, c7_6, c7_f⟩ := hx_8.cells7
          obtain ⟨c9_0, c9_1, c9_2, c9_3, c9_4, c9_5, c9_6, c9_f⟩ := hx2_5.cells7
          obtain ⟨c11_0, c11_1, c11_2, c11_3, c11_4, c11_5, c11_6, c11_f⟩ := hx3_3.cells7
          obtain ⟨c13_0, c13_1, c13_2, c13_3, c13_4, c13_5, c13_6, c13_f⟩ := hx4_1.cells7
          have HF := Hd.mk hF_12
          clear hF_12
          go_wp2
          go_ret
          exact ⟨rfl, HF.out⟩
  · have hqo := q_bool (Ne.symm heq)
    have hne := Ne.symm heq
    clear heq
    go_enter Try.func4, Try.ntmps4
    go_upto_region 1 with (fail)
    refine wp_name ?_
    intro w0 hw0
    have hF : Fr [] w w0 := by rw [hw0]; exact ((Fr.refl [] w).alloc _).alloc _
    have he : Blk w0 w.heap.size 35 [.string y.e.q.name, .int .u16 y.e.q.ty, .int .u16 y.e.q.cl, .slice y.e.ra y.l.length y.e.rc, .int .i64 y.e.rcode, .int .i64 y.e.rank, .int .u64 y.e.expire] := by rw [hw0]; exact (Blk.new _ _ _).alloc _
    have hq : Blk w0 (w.heap.size + 1) 25 [.string q.name, .int .u16 q.ty, .int .u16 q.cl] := by
      rw [hw0]
      have h0 := Blk.new (w.alloc (.cells #[.string y.e.q.name, .int .u16 y.e.q.ty, .int .u16 y.e.q.cl, .slice y.e.ra y.l.length y.e.rc, .int .i64 y.e.rcode, .int .i64 y.e.rank, .int .u64 y.e.expire] 35)) 25 [.string q.name, .int .u16 q.ty, .int .u16 q.cl]
      simp only [World.size_alloc] at h0
      exact h0
    have hD0 := hD.fr hF
    have hy0 := hy.step hF (by simp)
    clear hw0
    obtain ⟨c1_0, c1_1, c1_2, c1_f⟩ := hq.cells3
    obtain ⟨c2_0, c2_1, c2_2, c2_3, c2_4, c2_5, c2_6, c2_f⟩ := he.cells7
    go_wp2_with fail
    clear c1_0 c1_1 c1_2 c1_f c2_0 c2_1 c2_2 c2_3 c2_4 c2_5 c2_6 c2_f
    refine (shown_calls _).mono ?_
    rintro r ws ⟨rfl, hf⟩
    have hF_1 := hF.trans hf
    have hq_1 := hq.fr hf (by simp)
    have he_1 := he.fr hf (by simp)
    have hD_1 := hD0.fr hf
    have hy_1 := hy0.step hf (by simp)
    clear hF hq he hD0 hy0
    clear hf
    obtain ⟨c1_0, c1_1, c1_2, c1_f⟩ := hq_1.cells3
    obtain ⟨c2_0, c2_1, c2_2, c2_3, c2_4, c2_5, c2_6, c2_f⟩ := he_1.cells7
    go_wp2_with fail
    clear c1_0 c1_1 c1_2 c1_f c2_0 c2_1 c2_2 c2_3 c2_4 c2_5 c2_6 c2_f
    refine (ran_calls hD_1).mono ?_
    rintro r wr_ ⟨p, b, X, v_, rfl, hDS, hX5, hf, hp, hb⟩
    have hqb : w.heap.size + 1 ∉ [b] := by have := hq_1.lt; simp; omega
    have heb : w.heap.size ∉ [b] := by have := he_1.lt; simp; omega
    have hbw : w.heap.size ≤ b := by have := hF_1.size; omega
    have hye : RrOk _ (Nb p b) y := hy_1.mono fun k hk => by have := hF_1.size; exact ⟨by omega, by omega⟩
    clear hy_1
    clear hD_1
    have hF_2 := hF_1.trans hf
    have hq_2 := hq_1.fr hf (by simp)
    have he_2 := he_1.fr hf (by simp)
    have hy_2 := hye.step hf (by simp)
    clear hF_1 hq_1 he_1 hye
    clear hf hp hb
    have hM := hDS.m
    have hR := hDS.rr
    have HX5 := Hd.mk hX5
    clear hDS hX5
    obtain ⟨c1_0, c1_1, c1_2, c1_f⟩ := hq_2.cells3
    obtain ⟨c2_0, c2_1, c2_2, c2_3, c2_4, c2_5, c2_6, c2_f⟩ := he_2.cells7
    go_wp2_with fail
    clear c1_0 c1_1 c1_2 c1_f c2_0 c2_1 c2_2 c2_3 c2_4 c2_5 c2_6 c2_f
    refine (lookx_calls hM hR q now).mono ?_
    rintro r wl1 ⟨hf, A1, c1, rfl, hl1, hK1⟩
    obtain ⟨s1, es1⟩ : ∃ s, lookS (X) q now = s := ⟨_, rfl⟩
    obtain ⟨i1, ei1⟩ : ∃ i, (lookX (X) q now).isSome = i := ⟨_, rfl⟩
    rw [es1] at hl1 hK1
    rw [es1, ei1]
    have ES1 := Hd.mk es1
    have EI1 := Hd.mk ei1
    clear es1 ei1
    have hF_3 := hF_2.trans hf
    have hq_3 := hq_2.fr hf (by simp)
    have he_3 := he_2.fr hf (by simp)
    have hy_3 := hy_2.step hf (by simp)
    have hM_1 := hM.fr hf (by simp) (by simp)
    have hR_1 := fun x hx => (hR x hx).step hf (by simp)
    clear hF_2 hq_2 he_2 hy_2 hM hR
    clear hf
    obtain ⟨c1_0, c1_1, c1_2, c1_f⟩ := hq_3.cells3
    obtain ⟨c2_0, c2_1, c2_2, c2_3, c2_4, c2_5, c2_6, c2_f⟩ := he_3.cells7
    go_upto_region 4 with (fail)
    clear c1_0 c1_1 c1_2 c1_f c2_0 c2_1 c2_2 c2_3 c2_4 c2_5 c2_6 c2_f
    refine wp_name ?_
    intro w_1 hw_
    have hf_w_1 := alloc_of hw_
    have hx := blk_of (T := 35) (c := [.string s1.f0.f0, .int .u16 s1.f0.f1, .int .u16 s1.f0.f2, .slice A1 s1.f1.length c1, .int .i64 s1.f2, .int .i64 s1.f3, .int .u64 s1.f4]) hw_
    clear hw_
    have hF_4 := hF_3.trans hf_w_1
    have hq_4 := hq_3.fr hf_w_1 (by simp)
    have he_4 := he_3.fr hf_w_1 (by simp)
    have hy_4 := hy_3.step hf_w_1 (by simp)
    have hM_2 := hM_1.fr hf_w_1 (by simp) (by simp)
    have hR_2 := fun x hx => (hR_1 x hx).step hf_w_1 (by simp)
    have hK1_1 := Kd.F_step hK1 fun k hk hlt => hf_w_1.block k hlt (by simp)
    clear hF_3 hq_3 he_3 hy_3 hM_1 hR_1 hK1
    clear hf_w_1
    have hxb := blk_ne_map hM_2 hx (by decide)
    have hin := insert_calls hM_2 (by have := HX5.out; rw [List.length_map]; unfold maxLen; omega) y.e now
    unfold En.v at hin
    rw [HN.out] at hin
    obtain ⟨C, hC⟩ : ∃ C, insC (ents X) 5 y.e now = C := ⟨_, rfl⟩
    rw [hC] at hin
    have HC := Hd.mk hC
    have HI := Hd.mk hin
    clear hin hC
    obtain ⟨c1_0, c1_1, c1_2, c1_f⟩ := hq_4.cells3
    obtain ⟨c2_0, c2_1, c2_2, c2_3, c2_4, c2_5, c2_6, c2_f⟩ := he_4.cells7
    obtain ⟨c7_0, c7_1, c7_2, c7_3, c7_4, c7_5, c7_6, c7_f⟩ := hx.cells7
    go_wp2_with fail
    clear c1_0 c1_1 c1_2 c1_f c2_0 c2_1 c2_2 c2_3 c2_4 c2_5 c2_6 c2_f c7_0 c7_1 c7_2 c7_3 c7_4 c7_5 c7_6 c7_f
    refine (HI.out).mono ?_
    rintro r win ⟨rfl, hMi, hf⟩
    clear HI
    rw [← insX_ents] at hMi
    have hF_5 := hF_4.weak hf (by simpa using hbw)
    have hq_5 := hq_4.fr hf hqb
    have he_5 := he_4.fr hf heb
    have hy_5 := hy_4.frb hf
    have hR_3 := fun x hx => (hR_2 x hx).frb hf
    have hK1_2 := Kd.F_step hK1_1 fun k hk hlt => hf.block k hlt (by simpa using hk.2)
    have hx_1 := hx.fr hf hxb
    clear hF_4 hq_4 he_4 hy_4 hM_2 hR_2 hK1_1 hx
    clear hf
    have hRi : ∀ x ∈ insX X 5 y now, RrOk win (Nb p b) x := fun x hx => by
      rcases mem_insX hx with rfl | h
      · exact hy_5
      · exact hR_3 x h
    clear hR_3
    obtain ⟨X2, hX2⟩ : ∃ X2, insX X 5 y now = X2 := ⟨_, rfl⟩
    rw [hX2] at hMi hRi
    have HX2 := Hd.mk hX2
    clear hX2
    obtain ⟨c1_0, c1_1, c1_2, c1_f⟩ := hq_5.cells3
    obtain ⟨c2_0, c2_1, c2_2, c2_3, c2_4, c2_5, c2_6, c2_f⟩ := he_5.cells7
    obtain ⟨c7_0, c7_1, c7_2, c7_3, c7_4, c7_5, c7_6, c7_f⟩ := hx_1.cells7
    rcases Int.lt_or_le T now with hTn | hTn
    · have HF := Hd.mk hF_5
      clear hF_5
      go_wp2
      go_ret
      exact ⟨rfl, HF.out⟩
    · clear c1_0 c1_1 c1_2 c1_f c2_0 c2_1 c2_2 c2_3 c2_4 c2_5 c2_6 c2_f c7_0 c7_1 c7_2 c7_3 c7_4 c7_5 c7_6 c7_f
      obtain ⟨c1_0, c1_1, c1_2, c1_f⟩ := hq_5.cells3
      obtain ⟨c2_0, c2_1, c2_2, c2_3, c2_4, c2_5, c2_6, c2_f⟩ := he_5.cells7
      obtain ⟨c7_0, c7_1, c7_2, c7_3, c7_4, c7_5, c7_6, c7_f⟩ := hx_1.cells7
      go_wp2_with fail
      clear c1_0 c1_1 c1_2 c1_f c2_0 c2_1 c2_2 c2_3 c2_4 c2_5 c2_6 c2_f c7_0 c7_1 c7_2 c7_3 c7_4 c7_5 c7_6 c7_f
      refine (lookx_calls hMi hRi y.e.q T).mono ?_
      rintro r wl2 ⟨hf, A2, c2, rfl, hl2, hK2⟩
      obtain ⟨s2, es2⟩ : ∃ s, lookS (X2) y.e.q T = s := ⟨_, rfl⟩
      obtain ⟨i2, ei2⟩ : ∃ i, (lookX (X2) y.e.q T).isSome = i := ⟨_, rfl⟩
      rw [es2] at hl2 hK2
      rw [es2, ei2]
      have ES2 := Hd.mk es2
      have EI2 := Hd.mk ei2
      clear es2 ei2
      have hF_6 := hF_5.trans hf
      have hq_6 := hq_5.fr hf (by simp)
      have he_6 := he_5.fr hf (by simp)
      have hy_6 := hy_5.step hf (by simp)
      have hM_4 := hMi.fr hf (by simp) (by simp)
      have hR_4 := fun x hx => (hRi x hx).step hf (by simp)
      have hK1_3 := Kd.F_step hK1_2 fun k hk hlt => hf.block k hlt (by simp)
      have hx_2 := hx_1.fr hf (by simp)
      clear hF_5 hq_5 he_5 hy_5 hMi hRi hK1_2 hx_1
      clear hf
      rcases i2 with _ | _
      · obtain ⟨c1_0, c1_1, c1_2, c1_f⟩ := hq_6.cells3
        obtain ⟨c2_0, c2_1, c2_2, c2_3, c2_4, c2_5, c2_6, c2_f⟩ := he_6.cells7
        obtain ⟨c7_0, c7_1, c7_2, c7_3, c7_4, c7_5, c7_6, c7_f⟩ := hx_2.cells7
        go_upto_region 9 with (fail)
        clear c1_0 c1_1 c1_2 c1_f c2_0 c2_1 c2_2 c2_3 c2_4 c2_5 c2_6 c2_f c7_0 c7_1 c7_2 c7_3 c7_4 c7_5 c7_6 c7_f
        refine wp_name ?_
        intro w_2 hw_
        have hf_w_2 := alloc_of hw_
        have hx2 := blk_of (T := 35) (c := [.string s2.f0.f0, .int .u16 s2.f0.f1, .int .u16 s2.f0.f2, .slice A2 s2.f1.length c2, .int .i64 s2.f2, .int .i64 s2.f3, .int .u64 s2.f4]) hw_
        clear hw_
        have hF_7 := hF_6.trans hf_w_2
        have hq_7 := hq_6.fr hf_w_2 (by simp)
        have he_7 := he_6.fr hf_w_2 (by simp)
        have hy_7 := hy_6.step hf_w_2 (by simp)
        have hM_5 := hM_4.fr hf_w_2 (by simp) (by simp)
        have hR_5 := fun x hx => (hR_4 x hx).step hf_w_2 (by simp)
        have hK1_4 := Kd.F_step hK1_3 fun k hk hlt => hf_w_2.block k hlt (by simp)
        have hx_3 := hx_2.fr hf_w_2 (by simp)
        have hK2_1 := Kd.F_step hK2 fun k hk hlt => hf_w_2.block k hlt (by simp)
        clear hF_6 hq_6 he_6 hy_6 hM_4 hR_4 hK1_3 hx_2 hK2
        clear hf_w_2
        obtain ⟨c1_0, c1_1, c1_2, c1_f⟩ := hq_7.cells3
        obtain ⟨c2_0, c2_1, c2_2, c2_3, c2_4, c2_5, c2_6, c2_f⟩ := he_7.cells7
        obtain ⟨c7_0, c7_1, c7_2, c7_3, c7_4, c7_5, c7_6, c7_f⟩ := hx_3.cells7
        obtain ⟨c9_0, c9_1, c9_2, c9_3, c9_4, c9_5, c9_6, c9_f⟩ := hx2.cells7
        go_wp2_with fail
        clear c1_0 c1_1 c1_2 c1_f c2_0 c2_1 c2_2 c2_3 c2_4 c2_5 c2_6 c2_f c7_0 c7_1 c7_2 c7_3 c7_4 c7_5 c7_6 c7_f c9_0 c9_1 c9_2 c9_3 c9_4 c9_5 c9_6 c9_f
        refine (lookx_calls hM_5 hR_5 y.e.q T).mono ?_
        rintro r wl3 ⟨hf, A3, c3, rfl, hl3, hK3⟩
        obtain ⟨s3, es3⟩ : ∃ s, lookS (X2) y.e.q T = s := ⟨_, rfl⟩
        obtain ⟨i3, ei3⟩ : ∃ i, (lookX (X2) y.e.q T).isSome = i := ⟨_, rfl⟩
        rw [es3] at hl3 hK3
        rw [es3, ei3]
        have ES3 := Hd.mk es3
        have EI3 := Hd.mk ei3
        clear es3 ei3
        have hF_8 := hF_7.trans hf
        have hq_8 := hq_7.fr hf (by simp)
        have he_8 := he_7.fr hf (by simp)
        have hy_8 := hy_7.step hf (by simp)
        have hM_6 := hM_5.fr hf (by simp) (by simp)
        have hR_6 := fun x hx => (hR_5 x hx).step hf (by simp)
        have hK1_5 := Kd.F_step hK1_4 fun k hk hlt => hf.block k hlt (by simp)
        have hx_4 := hx_3.fr hf (by simp)
        have hK2_2 := Kd.F_step hK2_1 fun k hk hlt => hf.block k hlt (by simp)
        have hx2_1 := hx2.fr hf (by simp)
        clear hF_7 hq_7 he_7 hy_7 hM_5 hR_5 hK1_4 hx_3 hK2_1 hx2
        clear hf
        have hs3 : s2 = s3 := by rw [← ES2.out, ← ES3.out]
        have hi3 : i3 = false := by rw [← EI3.out, EI2.out]
        subst hs3 hi3
        obtain ⟨c1_0, c1_1, c1_2, c1_f⟩ := hq_8.cells3
        obtain ⟨c2_0, c2_1, c2_2, c2_3, c2_4, c2_5, c2_6, c2_f⟩ := he_8.cells7
        obtain ⟨c7_0, c7_1, c7_2, c7_3, c7_4, c7_5, c7_6, c7_f⟩ := hx_4.cells7
        obtain ⟨c9_0, c9_1, c9_2, c9_3, c9_4, c9_5, c9_6, c9_f⟩ := hx2_1.cells7
        go_upto_region 10 with (fail)
        clear c1_0 c1_1 c1_2 c1_f c2_0 c2_1 c2_2 c2_3 c2_4 c2_5 c2_6 c2_f c7_0 c7_1 c7_2 c7_3 c7_4 c7_5 c7_6 c7_f c9_0 c9_1 c9_2 c9_3 c9_4 c9_5 c9_6 c9_f
        refine wp_name ?_
        intro w_3 hw_
        have hf_w_3 := alloc_of hw_
        have hx3 := blk_of (T := 35) (c := [.string s2.f0.f0, .int .u16 s2.f0.f1, .int .u16 s2.f0.f2, .slice A3 s2.f1.length c3, .int .i64 s2.f2, .int .i64 s2.f3, .int .u64 s2.f4]) hw_
        clear hw_
        have hF_9 := hF_8.trans hf_w_3
        have hq_9 := hq_8.fr hf_w_3 (by simp)
        have he_9 := he_8.fr hf_w_3 (by simp)
        have hy_9 := hy_8.step hf_w_3 (by simp)
        have hM_7 := hM_6.fr hf_w_3 (by simp) (by simp)
        have hR_7 := fun x hx => (hR_6 x hx).step hf_w_3 (by simp)
        have hK1_6 := Kd.F_step hK1_5 fun k hk hlt => hf_w_3.block k hlt (by simp)
        have hx_5 := hx_4.fr hf_w_3 (by simp)
        have hK2_3 := Kd.F_step hK2_2 fun k hk hlt => hf_w_3.block k hlt (by simp)
        have hx2_2 := hx2_1.fr hf_w_3 (by simp)
        have hK3_1 := Kd.F_step hK3 fun k hk hlt => hf_w_3.block k hlt (by simp)
        clear hF_8 hq_8 he_8 hy_8 hM_6 hR_6 hK1_5 hx_4 hK2_2 hx2_1 hK3
        clear hf_w_3
        obtain ⟨c1_0, c1_1, c1_2, c1_f⟩ := hq_9.cells3
        obtain ⟨c2_0, c2_1, c2_2, c2_3, c2_4, c2_5, c2_6, c2_f⟩ := he_9.cells7
        obtain ⟨c7_0, c7_1, c7_2, c7_3, c7_4, c7_5, c7_6, c7_f⟩ := hx_5.cells7
        obtain ⟨c9_0, c9_1, c9_2, c9_3, c9_4, c9_5, c9_6, c9_f⟩ := hx2_2.cells7
        obtain ⟨c11_0, c11_1, c11_2, c11_3, c11_4, c11_5, c11_6, c11_f⟩ := hx3.cells7
        go_wp2_with fail
        clear c1_0 c1_1 c1_2 c1_f c2_0 c2_1 c2_2 c2_3 c2_4 c2_5 c2_6 c2_f c7_0 c7_1 c7_2 c7_3 c7_4 c7_5 c7_6 c7_f c9_0 c9_1 c9_2 c9_3 c9_4 c9_5 c9_6 c9_f c11_0 c11_1 c11_2 c11_3 c11_4 c11_5 c11_6 c11_f
        refine (lookx_calls hM_7 hR_7 q now).mono ?_
        rintro r wl4 ⟨hf, A4, c4, rfl, hl4, hK4⟩
        obtain ⟨s4, es4⟩ : ∃ s, lookS (X2) q now = s := ⟨_, rfl⟩
        obtain ⟨i4, ei4⟩ : ∃ i, (lookX (X2) q now).isSome = i := ⟨_, rfl⟩
        rw [es4] at hl4 hK4
        rw [es4, ei4]
        have ES4 := Hd.mk es4
        have EI4 := Hd.mk ei4
        clear es4 ei4
        have hF_10 := hF_9.trans hf
        have hq_10 := hq_9.fr hf (by simp)
        have he_10 := he_9.fr hf (by simp)
        have hy_10 := hy_9.step hf (by simp)
        have hM_8 := hM_7.fr hf (by simp) (by simp)
        have hR_8 := fun x hx => (hR_7 x hx).step hf (by simp)
        have hK1_7 := Kd.F_step hK1_6 fun k hk hlt => hf.block k hlt (by simp)
        have hx_6 := hx_5.fr hf (by simp)
        have hK2_4 := Kd.F_step hK2_3 fun k hk hlt => hf.block k hlt (by simp)
        have hx2_3 := hx2_2.fr hf (by simp)
        have hK3_2 := Kd.F_step hK3_1 fun k hk hlt => hf.block k hlt (by simp)
        have hx3_1 := hx3.fr hf (by simp)
        clear hF_9 hq_9 he_9 hy_9 hM_7 hR_7 hK1_6 hx_5 hK2_3 hx2_2 hK3_1 hx3
        clear hf
        have hl := lookX_ins (X := X) (room := 5) (now := now) hne now
        rw [HX2.out] at hl
        have hs4 : s1 = s4 := by rw [← ES1.out, ← ES4.out]; exact (lookS_of hl).symm
        have hi4 : i1 = i4 := by rw [← EI1.out, ← EI4.out, hl]
        subst hs4 hi4
        clear hl
        obtain ⟨c1_0, c1_1, c1_2, c1_f⟩ := hq_10.cells3
        obtain ⟨c2_0, c2_1, c2_2, c2_3, c2_4, c2_5, c2_6, c2_f⟩ := he_10.cells7
        obtain ⟨c7_0, c7_1, c7_2, c7_3, c7_4, c7_5, c7_6, c7_f⟩ := hx_6.cells7
        obtain ⟨c9_0, c9_1, c9_2, c9_3, c9_4, c9_5, c9_6, c9_f⟩ := hx2_3.cells7
        obtain ⟨c11_0, c11_1, c11_2, c11_3, c11_4, c11_5, c11_6, c11_f⟩ := hx3_1.cells7
        go_upto_region 11 with (fail)
        clear c1_0 c1_1 c1_2 c1_f c2_0 c2_1 c2_2 c2_3 c2_4 c2_5 c2_6 c2_f c7_0 c7_1 c7_2 c7_3 c7_4 c7_5 c7_6 c7_f c9_0 c9_1 c9_2 c9_3 c9_4 c9_5 c9_6 c9_f c11_0 c11_1 c11_2 c11_3 c11_4 c11_5 c11_6 c11_f
        refine wp_name ?_
        intro w_4 hw_
        have hf_w_4 := alloc_of hw_
        have hx4 := blk_of (T := 35) (c := [.string s1.f0.f0, .int .u16 s1.f0.f1, .int .u16 s1.f0.f2, .slice A4 s1.f1.length c4, .int .i64 s1.f2, .int .i64 s1.f3, .int .u64 s1.f4]) hw_
        clear hw_
        have hF_11 := hF_10.trans hf_w_4
        have hq_11 := hq_10.fr hf_w_4 (by simp)
        have he_11 := he_10.fr hf_w_4 (by simp)
        have hy_11 := hy_10.step hf_w_4 (by simp)
        have hM_9 := hM_8.fr hf_w_4 (by simp) (by simp)
        have hR_9 := fun x hx => (hR_8 x hx).step hf_w_4 (by simp)
        have hK1_8 := Kd.F_step hK1_7 fun k hk hlt => hf_w_4.block k hlt (by simp)
        have hx_7 := hx_6.fr hf_w_4 (by simp)
        have hK2_5 := Kd.F_step hK2_4 fun k hk hlt => hf_w_4.block k hlt (by simp)
        have hx2_4 := hx2_3.fr hf_w_4 (by simp)
        have hK3_3 := Kd.F_step hK3_2 fun k hk hlt => hf_w_4.block k hlt (by simp)
        have hx3_2 := hx3_1.fr hf_w_4 (by simp)
        have hK4_1 := Kd.F_step hK4 fun k hk hlt => hf_w_4.block k hlt (by simp)
        clear hF_10 hq_10 he_10 hy_10 hM_8 hR_8 hK1_7 hx_6 hK2_4 hx2_3 hK3_2 hx3_1 hK4
        clear hf_w_4
        obtain ⟨c1_0, c1_1, c1_2, c1_f⟩ := hq_11.cells3
        obtain ⟨c2_0, c2_1, c2_2, c2_3, c2_4, c2_5, c2_6, c2_f⟩ := he_11.cells7
        obtain ⟨c7_0, c7_1, c7_2, c7_3, c7_4, c7_5, c7_6, c7_f⟩ := hx_7.cells7
        obtain ⟨c9_0, c9_1, c9_2, c9_3, c9_4, c9_5, c9_6, c9_f⟩ := hx2_4.cells7
        obtain ⟨c11_0, c11_1, c11_2, c11_3, c11_4, c11_5, c11_6, c11_f⟩ := hx3_2.cells7
        obtain ⟨c13_0, c13_1, c13_2, c13_3, c13_4, c13_5, c13_6, c13_f⟩ := hx4.cells7
        go_wp2_with fail
        clear c1_0 c1_1 c1_2 c1_f c2_0 c2_1 c2_2 c2_3 c2_4 c2_5 c2_6 c2_f c7_0 c7_1 c7_2 c7_3 c7_4 c7_5 c7_6 c7_f c9_0 c9_1 c9_2 c9_3 c9_4 c9_5 c9_6 c9_f c11_0 c11_1 c11_2 c11_3 c11_4 c11_5 c11_6 c11_f c13_0 c13_1 c13_2 c13_3 c13_4 c13_5 c13_6 c13_f
        with_reducible refine (same_kd s2 hK2_5 hl2 hK3_3 hl3).mono ?_
        rintro r wsm ⟨rfl, hf⟩
        have hF_12 := hF_11.trans hf
        have hq_12 := hq_11.fr hf (by simp)
        have he_12 := he_11.fr hf (by simp)
        have hy_12 := hy_11.step hf (by simp)
        have hM_10 := hM_9.fr hf (by simp) (by simp)
        have hR_10 := fun x hx => (hR_9 x hx).step hf (by simp)
        have hK1_9 := Kd.F_step hK1_8 fun k hk hlt => hf.block k hlt (by simp)
        have hx_8 := hx_7.fr hf (by simp)
        have hK2_6 := Kd.F_step hK2_5 fun k hk hlt => hf.block k hlt (by simp)
        have hx2_5 := hx2_4.fr hf (by simp)
        have hK3_4 := Kd.F_step hK3_3 fun k hk hlt => hf.block k hlt (by simp)
        have hx3_3 := hx3_2.fr hf (by simp)
        have hK4_2 := Kd.F_step hK4_1 fun k hk hlt => hf.block k hlt (by simp)
        have hx4_1 := hx4.fr hf (by simp)
        clear hF_11 hq_11 he_11 hy_11 hM_9 hR_9 hK1_8 hx_7 hK2_5 hx2_4 hK3_3 hx3_2 hK4_1 hx4
        clear hf
        obtain ⟨c1_0, c1_1, c1_2, c1_f⟩ := hq_12.cells3
        obtain ⟨c2_0, c2_1, c2_2, c2_3, c2_4, c2_5, c2_6, c2_f⟩ := he_12.cells7
        obtain ⟨c7_0, c7_1, c7_2, c7_3, c7_4, c7_5, c7_6, c7_f⟩ := hx_8.cells7
        obtain ⟨c9_0, c9_1, c9_2, c9_3, c9_4, c9_5, c9_6, c9_f⟩ := hx2_5.cells7
        obtain ⟨c11_0, c11_1, c11_2, c11_3, c11_4, c11_5, c11_6, c11_f⟩ := hx3_3.cells7
        obtain ⟨c13_0, c13_1, c13_2, c13_3, c13_4, c13_5, c13_6, c13_f⟩ := hx4_1.cells7
        go_wp2_with fail
        clear c1_0 c1_1 c1_2 c1_f c2_0 c2_1 c2_2 c2_3 c2_4 c2_5 c2_6 c2_f c7_0 c7_1 c7_2 c7_3 c7_4 c7_5 c7_6 c7_f c9_0 c9_1 c9_2 c9_3 c9_4 c9_5 c9_6 c9_f c11_0 c11_1 c11_2 c11_3 c11_4 c11_5 c11_6 c11_f c13_0 c13_1 c13_2 c13_3 c13_4 c13_5 c13_6 c13_f
        with_reducible refine (same_kd s1 hK1_9 hl1 hK4_2 hl4).mono ?_
        rintro r wsn ⟨rfl, hf⟩
        have hF_13 := hF_12.trans hf
        have hq_13 := hq_12.fr hf (by simp)
        have he_13 := he_12.fr hf (by simp)
        have hy_13 := hy_12.step hf (by simp)
        have hM_11 := hM_10.fr hf (by simp) (by simp)
        have hR_11 := fun x hx => (hR_10 x hx).step hf (by simp)
        have hK1_10 := Kd.F_step hK1_9 fun k hk hlt => hf.block k hlt (by simp)
        have hx_9 := hx_8.fr hf (by simp)
        have hK2_7 := Kd.F_step hK2_6 fun k hk hlt => hf.block k hlt (by simp)
        have hx2_6 := hx2_5.fr hf (by simp)
        have hK3_5 := Kd.F_step hK3_4 fun k hk hlt => hf.block k hlt (by simp)
        have hx3_4 := hx3_3.fr hf (by simp)
        have hK4_3 := Kd.F_step hK4_2 fun k hk hlt => hf.block k hlt (by simp)
        have hx4_2 := hx4_1.fr hf (by simp)
        clear hF_12 hq_12 he_12 hy_12 hM_10 hR_10 hK1_9 hx_8 hK2_6 hx2_5 hK3_4 hx3_3 hK4_2 hx4_1
        clear hf
        by_cases hC0 : C = 0
        · have hln := lookX_new (X := X) (room := 5) (now := now) (y := y) (by rw [HC.out, hC0]) T
          rw [HX2.out] at hln
          have hgt : decide (y.e.expire > T) = false := by
            have h1 := EI2.out
            rw [hln] at h1
            unfold liveB at h1
            cases h2 : decide (y.e.expire > T) <;> rw [h2] at h1 <;> simp_all
          clear hln
          obtain ⟨c1_0, c1_1, c1_2, c1_f⟩ := hq_13.cells3
          obtain ⟨c2_0, c2_1, c2_2, c2_3, c2_4, c2_5, c2_6, c2_f⟩ := he_13.cells7
          obtain ⟨c7_0, c7_1, c7_2, c7_3, c7_4, c7_5, c7_6, c7_f⟩ := hx_9.cells7
          obtain ⟨c9_0, c9_1, c9_2, c9_3, c9_4, c9_5, c9_6, c9_f⟩ := hx2_6.cells7
          obtain ⟨c11_0, c11_1, c11_2, c11_3, c11_4, c11_5, c11_6, c11_f⟩ := hx3_4.cells7
          obtain ⟨c13_0, c13_1, c13_2, c13_3, c13_4, c13_5, c13_6, c13_f⟩ := hx4_2.cells7
          have HF := Hd.mk hF_13
          clear hF_13
          go_wp2
          go_ret
          exact ⟨rfl, HF.out⟩
        · obtain ⟨c1_0, c1_1, c1_2, c1_f⟩ := hq_13.cells3
          obtain ⟨c2_0, c2_1, c2_2, c2_3, c2_4, c2_5, c2_6, c2_f⟩ := he_13.cells7
          obtain ⟨c7_0, c7_1, c7_2, c7_3, c7_4, c7_5, c7_6, c7_f⟩ := hx_9.cells7
          obtain ⟨c9_0, c9_1, c9_2, c9_3, c9_4, c9_5, c9_6, c9_f⟩ := hx2_6.cells7
          obtain ⟨c11_0, c11_1, c11_2, c11_3, c11_4, c11_5, c11_6, c11_f⟩ := hx3_4.cells7
          obtain ⟨c13_0, c13_1, c13_2, c13_3, c13_4, c13_5, c13_6, c13_f⟩ := hx4_2.cells7
          have HF := Hd.mk hF_13
          clear hF_13
          go_wp2
          go_ret
          exact ⟨rfl, HF.out⟩
      · obtain ⟨c1_0, c1_1, c1_2, c1_f⟩ := hq_6.cells3
        obtain ⟨c2_0, c2_1, c2_2, c2_3, c2_4, c2_5, c2_6, c2_f⟩ := he_6.cells7
        obtain ⟨c7_0, c7_1, c7_2, c7_3, c7_4, c7_5, c7_6, c7_f⟩ := hx_2.cells7
        go_upto_region 9 with (fail)
        clear c1_0 c1_1 c1_2 c1_f c2_0 c2_1 c2_2 c2_3 c2_4 c2_5 c2_6 c2_f c7_0 c7_1 c7_2 c7_3 c7_4 c7_5 c7_6 c7_f
        refine wp_name ?_
        intro w_2 hw_
        have hf_w_2 := alloc_of hw_
        have hx2 := blk_of (T := 35) (c := [.string s2.f0.f0, .int .u16 s2.f0.f1, .int .u16 s2.f0.f2, .slice A2 s2.f1.length c2, .int .i64 s2.f2, .int .i64 s2.f3, .int .u64 s2.f4]) hw_
        clear hw_
        have hF_7 := hF_6.trans hf_w_2
        have hq_7 := hq_6.fr hf_w_2 (by simp)
        have he_7 := he_6.fr hf_w_2 (by simp)
        have hy_7 := hy_6.step hf_w_2 (by simp)
        have hM_5 := hM_4.fr hf_w_2 (by simp) (by simp)
        have hR_5 := fun x hx => (hR_4 x hx).step hf_w_2 (by simp)
        have hK1_4 := Kd.F_step hK1_3 fun k hk hlt => hf_w_2.block k hlt (by simp)
        have hx_3 := hx_2.fr hf_w_2 (by simp)
        have hK2_1 := Kd.F_step hK2 fun k hk hlt => hf_w_2.block k hlt (by simp)
        clear hF_6 hq_6 he_6 hy_6 hM_4 hR_4 hK1_3 hx_2 hK2
        clear hf_w_2
        obtain ⟨c1_0, c1_1, c1_2, c1_f⟩ := hq_7.cells3
        obtain ⟨c2_0, c2_1, c2_2, c2_3, c2_4, c2_5, c2_6, c2_f⟩ := he_7.cells7
        obtain ⟨c7_0, c7_1, c7_2, c7_3, c7_4, c7_5, c7_6, c7_f⟩ := hx_3.cells7
        obtain ⟨c9_0, c9_1, c9_2, c9_3, c9_4, c9_5, c9_6, c9_f⟩ := hx2.cells7
        go_wp2_with fail
        clear c1_0 c1_1 c1_2 c1_f c2_0 c2_1 c2_2 c2_3 c2_4 c2_5 c2_6 c2_f c7_0 c7_1 c7_2 c7_3 c7_4 c7_5 c7_6 c7_f c9_0 c9_1 c9_2 c9_3 c9_4 c9_5 c9_6 c9_f
        refine (lookx_calls hM_5 hR_5 y.e.q T).mono ?_
        rintro r wl3 ⟨hf, A3, c3, rfl, hl3, hK3⟩
        obtain ⟨s3, es3⟩ : ∃ s, lookS (X2) y.e.q T = s := ⟨_, rfl⟩
        obtain ⟨i3, ei3⟩ : ∃ i, (lookX (X2) y.e.q T).isSome = i := ⟨_, rfl⟩
        rw [es3] at hl3 hK3
        rw [es3, ei3]
        have ES3 := Hd.mk es3
        have EI3 := Hd.mk ei3
        clear es3 ei3
        have hF_8 := hF_7.trans hf
        have hq_8 := hq_7.fr hf (by simp)
        have he_8 := he_7.fr hf (by simp)
        have hy_8 := hy_7.step hf (by simp)
        have hM_6 := hM_5.fr hf (by simp) (by simp)
        have hR_6 := fun x hx => (hR_5 x hx).step hf (by simp)
        have hK1_5 := Kd.F_step hK1_4 fun k hk hlt => hf.block k hlt (by simp)
        have hx_4 := hx_3.fr hf (by simp)
        have hK2_2 := Kd.F_step hK2_1 fun k hk hlt => hf.block k hlt (by simp)
        have hx2_1 := hx2.fr hf (by simp)
        clear hF_7 hq_7 he_7 hy_7 hM_5 hR_5 hK1_4 hx_3 hK2_1 hx2
        clear hf
        have hs3 : s2 = s3 := by rw [← ES2.out, ← ES3.out]
        have hi3 : i3 = true := by rw [← EI3.out, EI2.out]
        subst hs3 hi3
        obtain ⟨c1_0, c1_1, c1_2, c1_f⟩ := hq_8.cells3
        obtain ⟨c2_0, c2_1, c2_2, c2_3, c2_4, c2_5, c2_6, c2_f⟩ := he_8.cells7
        obtain ⟨c7_0, c7_1, c7_2, c7_3, c7_4, c7_5, c7_6, c7_f⟩ := hx_4.cells7
        obtain ⟨c9_0, c9_1, c9_2, c9_3, c9_4, c9_5, c9_6, c9_f⟩ := hx2_1.cells7
        go_upto_region 10 with (fail)
        clear c1_0 c1_1 c1_2 c1_f c2_0 c2_1 c2_2 c2_3 c2_4 c2_5 c2_6 c2_f c7_0 c7_1 c7_2 c7_3 c7_4 c7_5 c7_6 c7_f c9_0 c9_1 c9_2 c9_3 c9_4 c9_5 c9_6 c9_f
        refine wp_name ?_
        intro w_3 hw_
        have hf_w_3 := alloc_of hw_
        have hx3 := blk_of (T := 35) (c := [.string s2.f0.f0, .int .u16 s2.f0.f1, .int .u16 s2.f0.f2, .slice A3 s2.f1.length c3, .int .i64 s2.f2, .int .i64 s2.f3, .int .u64 s2.f4]) hw_
        clear hw_
        have hF_9 := hF_8.trans hf_w_3
        have hq_9 := hq_8.fr hf_w_3 (by simp)
        have he_9 := he_8.fr hf_w_3 (by simp)
        have hy_9 := hy_8.step hf_w_3 (by simp)
        have hM_7 := hM_6.fr hf_w_3 (by simp) (by simp)
        have hR_7 := fun x hx => (hR_6 x hx).step hf_w_3 (by simp)
        have hK1_6 := Kd.F_step hK1_5 fun k hk hlt => hf_w_3.block k hlt (by simp)
        have hx_5 := hx_4.fr hf_w_3 (by simp)
        have hK2_3 := Kd.F_step hK2_2 fun k hk hlt => hf_w_3.block k hlt (by simp)
        have hx2_2 := hx2_1.fr hf_w_3 (by simp)
        have hK3_1 := Kd.F_step hK3 fun k hk hlt => hf_w_3.block k hlt (by simp)
        clear hF_8 hq_8 he_8 hy_8 hM_6 hR_6 hK1_5 hx_4 hK2_2 hx2_1 hK3
        clear hf_w_3
        obtain ⟨c1_0, c1_1, c1_2, c1_f⟩ := hq_9.cells3
        obtain ⟨c2_0, c2_1, c2_2, c2_3, c2_4, c2_5, c2_6, c2_f⟩ := he_9.cells7
        obtain ⟨c7_0, c7_1, c7_2, c7_3, c7_4, c7_5, c7_6, c7_f⟩ := hx_5.cells7
        obtain ⟨c9_0, c9_1, c9_2, c9_3, c9_4, c9_5, c9_6, c9_f⟩ := hx2_2.cells7
        obtain ⟨c11_0, c11_1, c11_2, c11_3, c11_4, c11_5, c11_6, c11_f⟩ := hx3.cells7
        go_wp2_with fail
        clear c1_0 c1_1 c1_2 c1_f c2_0 c2_1 c2_2 c2_3 c2_4 c2_5 c2_6 c2_f c7_0 c7_1 c7_2 c7_3 c7_4 c7_5 c7_6 c7_f c9_0 c9_1 c9_2 c9_3 c9_4 c9_5 c9_6 c9_f c11_0 c11_1 c11_2 c11_3 c11_4 c11_5 c11_6 c11_f
        refine (lookx_calls hM_7 hR_7 q now).mono ?_
        rintro r wl4 ⟨hf, A4, c4, rfl, hl4, hK4⟩
        obtain ⟨s4, es4⟩ : ∃ s, lookS (X2) q now = s := ⟨_, rfl⟩
        obtain ⟨i4, ei4⟩ : ∃ i, (lookX (X2) q now).isSome = i := ⟨_, rfl⟩
        rw [es4] at hl4 hK4
        rw [es4, ei4]
        have ES4 := Hd.mk es4
        have EI4 := Hd.mk ei4
        clear es4 ei4
        have hF_10 := hF_9.trans hf
        have hq_10 := hq_9.fr hf (by simp)
        have he_10 := he_9.fr hf (by simp)
        have hy_10 := hy_9.step hf (by simp)
        have hM_8 := hM_7.fr hf (by simp) (by simp)
        have hR_8 := fun x hx => (hR_7 x hx).step hf (by simp)
        have hK1_7 := Kd.F_step hK1_6 fun k hk hlt => hf.block k hlt (by simp)
        have hx_6 := hx_5.fr hf (by simp)
        have hK2_4 := Kd.F_step hK2_3 fun k hk hlt => hf.block k hlt (by simp)
        have hx2_3 := hx2_2.fr hf (by simp)
        have hK3_2 := Kd.F_step hK3_1 fun k hk hlt => hf.block k hlt (by simp)
        have hx3_1 := hx3.fr hf (by simp)
        clear hF_9 hq_9 he_9 hy_9 hM_7 hR_7 hK1_6 hx_5 hK2_3 hx2_2 hK3_1 hx3
        clear hf
        have hl := lookX_ins (X := X) (room := 5) (now := now) hne now
        rw [HX2.out] at hl
        have hs4 : s1 = s4 := by rw [← ES1.out, ← ES4.out]; exact (lookS_of hl).symm
        have hi4 : i1 = i4 := by rw [← EI1.out, ← EI4.out, hl]
        subst hs4 hi4
        clear hl
        obtain ⟨c1_0, c1_1, c1_2, c1_f⟩ := hq_10.cells3
        obtain ⟨c2_0, c2_1, c2_2, c2_3, c2_4, c2_5, c2_6, c2_f⟩ := he_10.cells7
        obtain ⟨c7_0, c7_1, c7_2, c7_3, c7_4, c7_5, c7_6, c7_f⟩ := hx_6.cells7
        obtain ⟨c9_0, c9_1, c9_2, c9_3, c9_4, c9_5, c9_6, c9_f⟩ := hx2_3.cells7
        obtain ⟨c11_0, c11_1, c11_2, c11_3, c11_4, c11_5, c11_6, c11_f⟩ := hx3_1.cells7
        go_upto_region 11 with (fail)
        clear c1_0 c1_1 c1_2 c1_f c2_0 c2_1 c2_2 c2_3 c2_4 c2_5 c2_6 c2_f c7_0 c7_1 c7_2 c7_3 c7_4 c7_5 c7_6 c7_f c9_0 c9_1 c9_2 c9_3 c9_4 c9_5 c9_6 c9_f c11_0 c11_1 c11_2 c11_3 c11_4 c11_5 c11_6 c11_f
        refine wp_name ?_
        intro w_4 hw_
        have hf_w_4 := alloc_of hw_
        have hx4 := blk_of (T := 35) (c := [.string s1.f0.f0, .int .u16 s1.f0.f1, .int .u16 s1.f0.f2, .slice A4 s1.f1.length c4, .int .i64 s1.f2, .int .i64 s1.f3, .int .u64 s1.f4]) hw_
        clear hw_
        have hF_11 := hF_10.trans hf_w_4
        have hq_11 := hq_10.fr hf_w_4 (by simp)
        have he_11 := he_10.fr hf_w_4 (by simp)
        have hy_11 := hy_10.step hf_w_4 (by simp)
        have hM_9 := hM_8.fr hf_w_4 (by simp) (by simp)
        have hR_9 := fun x hx => (hR_8 x hx).step hf_w_4 (by simp)
        have hK1_8 := Kd.F_step hK1_7 fun k hk hlt => hf_w_4.block k hlt (by simp)
        have hx_7 := hx_6.fr hf_w_4 (by simp)
        have hK2_5 := Kd.F_step hK2_4 fun k hk hlt => hf_w_4.block k hlt (by simp)
        have hx2_4 := hx2_3.fr hf_w_4 (by simp)
        have hK3_3 := Kd.F_step hK3_2 fun k hk hlt => hf_w_4.block k hlt (by simp)
        have hx3_2 := hx3_1.fr hf_w_4 (by simp)
        have hK4_1 := Kd.F_step hK4 fun k hk hlt => hf_w_4.block k hlt (by simp)
        clear hF_10 hq_10 he_10 hy_10 hM_8 hR_8 hK1_7 hx_6 hK2_4 hx2_3 hK3_2 hx3_1 hK4
        clear hf_w_4
        obtain ⟨c1_0, c1_1, c1_2, c1_f⟩ := hq_11.cells3
        obtain ⟨c2_0, c2_1, c2_2, c2_3, c2_4, c2_5, c2_6, c2_f⟩ := he_11.cells7
        obtain ⟨c7_0, c7_1, c7_2, c7_3, c7_4, c7_5, c7_6, c7_f⟩ := hx_7.cells7
        obtain ⟨c9_0, c9_1, c9_2, c9_3, c9_4, c9_5, c9_6, c9_f⟩ := hx2_4.cells7
        obtain ⟨c11_0, c11_1, c11_2, c11_3, c11_4, c11_5, c11_6, c11_f⟩ := hx3_2.cells7
        obtain ⟨c13_0, c13_1, c13_2, c13_3, c13_4, c13_5, c13_6, c13_f⟩ := hx4.cells7
        go_wp2_with fail
        clear c1_0 c1_1 c1_2 c1_f c2_0 c2_1 c2_2 c2_3 c2_4 c2_5 c2_6 c2_f c7_0 c7_1 c7_2 c7_3 c7_4 c7_5 c7_6 c7_f c9_0 c9_1 c9_2 c9_3 c9_4 c9_5 c9_6 c9_f c11_0 c11_1 c11_2 c11_3 c11_4 c11_5 c11_6 c11_f c13_0 c13_1 c13_2 c13_3 c13_4 c13_5 c13_6 c13_f
        with_reducible refine (same_kd s2 hK2_5 hl2 hK3_3 hl3).mono ?_
        rintro r wsm ⟨rfl, hf⟩
        have hF_12 := hF_11.trans hf
        have hq_12 := hq_11.fr hf (by simp)
        have he_12 := he_11.fr hf (by simp)
        have hy_12 := hy_11.step hf (by simp)
        have hM_10 := hM_9.fr hf (by simp) (by simp)
        have hR_10 := fun x hx => (hR_9 x hx).step hf (by simp)
        have hK1_9 := Kd.F_step hK1_8 fun k hk hlt => hf.block k hlt (by simp)
        have hx_8 := hx_7.fr hf (by simp)
        have hK2_6 := Kd.F_step hK2_5 fun k hk hlt => hf.block k hlt (by simp)
        have hx2_5 := hx2_4.fr hf (by simp)
        have hK3_4 := Kd.F_step hK3_3 fun k hk hlt => hf.block k hlt (by simp)
        have hx3_3 := hx3_2.fr hf (by simp)
        have hK4_2 := Kd.F_step hK4_1 fun k hk hlt => hf.block k hlt (by simp)
        have hx4_1 := hx4.fr hf (by simp)
        clear hF_11 hq_11 he_11 hy_11 hM_9 hR_9 hK1_8 hx_7 hK2_5 hx2_4 hK3_3 hx3_2 hK4_1 hx4
        clear hf
        obtain ⟨c1_0, c1_1, c1_2, c1_f⟩ := hq_12.cells3
        obtain ⟨c2_0, c2_1, c2_2, c2_3, c2_4, c2_5, c2_6, c2_f⟩ := he_12.cells7
        obtain ⟨c7_0, c7_1, c7_2, c7_3, c7_4, c7_5, c7_6, c7_f⟩ := hx_8.cells7
        obtain ⟨c9_0, c9_1, c9_2, c9_3, c9_4, c9_5, c9_6, c9_f⟩ := hx2_5.cells7
        obtain ⟨c11_0, c11_1, c11_2, c11_3, c11_4, c11_5, c11_6, c11_f⟩ := hx3_3.cells7
        obtain ⟨c13_0, c13_1, c13_2, c13_3, c13_4, c13_5, c13_6, c13_f⟩ := hx4_1.cells7
        go_wp2_with fail
        clear c1_0 c1_1 c1_2 c1_f c2_0 c2_1 c2_2 c2_3 c2_4 c2_5 c2_6 c2_f c7_0 c7_1 c7_2 c7_3 c7_4 c7_5 c7_6 c7_f c9_0 c9_1 c9_2 c9_3 c9_4 c9_5 c9_6 c9_f c11_0 c11_1 c11_2 c11_3 c11_4 c11_5 c11_6 c11_f c13_0 c13_1 c13_2 c13_3 c13_4 c13_5 c13_6 c13_f
        with_reducible refine (same_kd s1 hK1_9 hl1 hK4_2 hl4).mono ?_
        rintro r wsn ⟨rfl, hf⟩
        have hF_13 := hF_12.trans hf
        have hq_13 := hq_12.fr hf (by simp)
        have he_13 := he_12.fr hf (by simp)
        have hy_13 := hy_12.step hf (by simp)
        have hM_11 := hM_10.fr hf (by simp) (by simp)
        have hR_11 := fun x hx => (hR_10 x hx).step hf (by simp)
        have hK1_10 := Kd.F_step hK1_9 fun k hk hlt => hf.block k hlt (by simp)
        have hx_9 := hx_8.fr hf (by simp)
        have hK2_7 := Kd.F_step hK2_6 fun k hk hlt => hf.block k hlt (by simp)
        have hx2_6 := hx2_5.fr hf (by simp)
        have hK3_5 := Kd.F_step hK3_4 fun k hk hlt => hf.block k hlt (by simp)
        have hx3_4 := hx3_3.fr hf (by simp)
        have hK4_3 := Kd.F_step hK4_2 fun k hk hlt => hf.block k hlt (by simp)
        have hx4_2 := hx4_1.fr hf (by simp)
        clear hF_12 hq_12 he_12 hy_12 hM_10 hR_10 hK1_9 hx_8 hK2_6 hx2_5 hK3_4 hx3_3 hK4_2 hx4_1
        clear hf
        by_cases hC0 : C = 0
        · have hln := lookX_new (X := X) (room := 5) (now := now) (y := y) (by rw [HC.out, hC0]) T
          rw [HX2.out] at hln
          have hgt : decide (y.e.expire > T) = true := by
            have h1 := EI2.out
            rw [hln] at h1
            unfold liveB at h1
            cases h2 : decide (y.e.expire > T) <;> rw [h2] at h1 <;> simp_all
          have hs2 : s2 = y.s := by
            rw [← ES2.out]
            unfold lookS
            rw [hln]
            unfold liveB
            rw [hgt]
            rfl
          clear hln
          subst hs2
          obtain ⟨c1_0, c1_1, c1_2, c1_f⟩ := hq_13.cells3
          obtain ⟨c2_0, c2_1, c2_2, c2_3, c2_4, c2_5, c2_6, c2_f⟩ := he_13.cells7
          obtain ⟨c7_0, c7_1, c7_2, c7_3, c7_4, c7_5, c7_6, c7_f⟩ := hx_9.cells7
          obtain ⟨c9_0, c9_1, c9_2, c9_3, c9_4, c9_5, c9_6, c9_f⟩ := hx2_6.cells7
          obtain ⟨c11_0, c11_1, c11_2, c11_3, c11_4, c11_5, c11_6, c11_f⟩ := hx3_4.cells7
          obtain ⟨c13_0, c13_1, c13_2, c13_3, c13_4, c13_5, c13_6, c13_f⟩ := hx4_2.cells7
          go_wp2_with fail
          clear c1_0 c1_1 c1_2 c1_f c2_0 c2_1 c2_2 c2_3 c2_4 c2_5 c2_6 c2_f c7_0 c7_1 c7_2 c7_3 c7_4 c7_5 c7_6 c7_f c9_0 c9_1 c9_2 c9_3 c9_4 c9_5 c9_6 c9_f c11_0 c11_1 c11_2 c11_3 c11_4 c11_5 c11_6 c11_f c13_0 c13_1 c13_2 c13_3 c13_4 c13_5 c13_6 c13_f
          refine (same_kd y.s hK2_7 hl2 hy_13.f hy_13.c).mono ?_
          rintro r wso ⟨rfl, hf⟩
          have hF_14 := hF_13.trans hf
          have hq_14 := hq_13.fr hf (by simp)
          have he_14 := he_13.fr hf (by simp)
          have hy_14 := hy_13.step hf (by simp)
          have hM_12 := hM_11.fr hf (by simp) (by simp)
          have hR_12 := fun x hx => (hR_11 x hx).step hf (by simp)
          have hK1_11 := Kd.F_step hK1_10 fun k hk hlt => hf.block k hlt (by simp)
          have hx_10 := hx_9.fr hf (by simp)
          have hK2_8 := Kd.F_step hK2_7 fun k hk hlt => hf.block k hlt (by simp)
          have hx2_7 := hx2_6.fr hf (by simp)
          have hK3_6 := Kd.F_step hK3_5 fun k hk hlt => hf.block k hlt (by simp)
          have hx3_5 := hx3_4.fr hf (by simp)
          have hK4_4 := Kd.F_step hK4_3 fun k hk hlt => hf.block k hlt (by simp)
          have hx4_3 := hx4_2.fr hf (by simp)
          clear hF_13 hq_13 he_13 hy_13 hM_11 hR_11 hK1_10 hx_9 hK2_7 hx2_6 hK3_5 hx3_4 hK4_3 hx4_2
          clear hf
          obtain ⟨c1_0, c1_1, c1_2, c1_f⟩ := hq_14.cells3
          obtain ⟨c2_0, c2_1, c2_2, c2_3, c2_4, c2_5, c2_6, c2_f⟩ := he_14.cells7
          obtain ⟨c7_0, c7_1, c7_2, c7_3, c7_4, c7_5, c7_6, c7_f⟩ := hx_10.cells7
          obtain ⟨c9_0, c9_1, c9_2, c9_3, c9_4, c9_5, c9_6, c9_f⟩ := hx2_7.cells7
          obtain ⟨c11_0, c11_1, c11_2, c11_3, c11_4, c11_5, c11_6, c11_f⟩ := hx3_5.cells7
          obtain ⟨c13_0, c13_1, c13_2, c13_3, c13_4, c13_5, c13_6, c13_f⟩ := hx4_3.cells7
          have HF := Hd.mk hF_14
          clear hF_14
          go_wp2
          go_ret
          exact ⟨rfl, HF.out⟩
        · obtain ⟨c1_0, c1_1, c1_2, c1_f⟩ := hq_13.cells3
          obtain ⟨c2_0, c2_1, c2_2, c2_3, c2_4, c2_5, c2_6, c2_f⟩ := he_13.cells7
          obtain ⟨c7_0, c7_1, c7_2, c7_3, c7_4, c7_5, c7_6, c7_f⟩ := hx_9.cells7
          obtain ⟨c9_0, c9_1, c9_2, c9_3, c9_4, c9_5, c9_6, c9_f⟩ := hx2_6.cells7
          obtain ⟨c11_0, c11_1, c11_2, c11_3, c11_4, c11_5, c11_6, c11_f⟩ := hx3_4.cells7
          obtain ⟨c13_0, c13_1, c13_2, c13_3, c13_4, c13_5, c13_6, c13_f⟩ := hx4_2.cells7
          have HF := Hd.mk hF_13
          clear hF_13
          go_wp2
          go_ret
          exact ⟨rfl, HF.out⟩
end Go.Proofs.Ytnikhiegnledlaa
