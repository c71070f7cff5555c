import Derived.Test.YtnikhiegnledlaaM10
namespace Go.Proofs.Ytnikhiegnledlaa
open Go Go.RowKit Go.Proofs.MapL PPM Go.Proofs.YtnikhiegnledlaaW.PrintWords

theorem DeedsAt.fr {w w' : World} {v : Value} {ds : List Dd} (h : DeedsAt w v ds) (hf : Fr [] w w') : DeedsAt w' v ds := by
  obtain ⟨h1, h2, A, c, rfl, h3⟩ := h
  refine ⟨h1, fun d hd => ((h2 d hd).step hf (by simp)).mono fun k hk => Nat.lt_of_lt_of_le hk hf.size, A, c, rfl, fun h0 => ?_⟩
  obtain ⟨b, off, e, hb, hc⟩ := h3 h0
  exact ⟨b, off, e, Nat.lt_of_lt_of_le hb hf.size, fun i hi j u hu => hf.cell (hc i hi j u hu) (by simp)⟩
theorem find_delX_same (X : List Ex) (q : Qn) : findE (ents (delX X q)) q = none := by
  unfold findE
  rw [List.find?_eq_none]
  intro e he
  obtain ⟨x, hx, rfl⟩ := List.mem_map.1 he
  have := (List.mem_filter.1 hx).2
  simpa using this
theorem mem_delX {X : List Ex} {q : Qn} {x : Ex} (h : x ∈ delX X q) : x ∈ X := (List.mem_filter.1 h).1
theorem delX_delX (X : List Ex) (q : Qn) : delX (delX X q) q = delX X q := by
  unfold delX; rw [List.filter_filter]; simp
theorem delX_none {X : List Ex} {q : Qn} (h : findE (ents X) q = none) : delX X q = X := by
  unfold delX
  rw [List.filter_eq_self]
  intro x hx
  have := List.find?_eq_none.1 h x.e (List.mem_map.2 ⟨x, hx, rfl⟩)
  simpa using this
theorem lookX_find (X : List Ex) (q : Qn) (now : Int) : lookX X q now = (X.find? fun x => decide (x.e.q = q)).bind fun x => if liveB x.e.expire now then some x else none := by
  unfold lookX idxX
  induction X with
  | nil => rfl
  | cons x X ih =>
    rw [List.findIdx?_cons, List.find?_cons]
    by_cases h : x.e.q = q
    · simp [h]
    · have e : decide (x.e.q = q) = false := decide_eq_false h
      rw [e]
      simp only [Bool.false_eq_true, if_false]
      rw [← ih]
      cases X.findIdx? (fun x => decide (x.e.q = q)) <;> rfl
theorem lookX_del {X : List Ex} {q o : Qn} (h : o ≠ q) (now : Int) : lookX (delX X q) o now = lookX X o now := by
  rw [lookX_find, lookX_find]
  congr 1
  unfold delX
  induction X with
  | nil => rfl
  | cons x X ih =>
    rw [List.filter_cons, List.find?_cons]
    by_cases hx : x.e.q = q
    · rw [if_neg (by simpa using hx), ih]
      have e : decide (x.e.q = o) = false := decide_eq_false (by rw [hx]; exact Ne.symm h)
      rw [e]
    · rw [if_pos (by simpa using hx), List.find?_cons]
      cases decide (x.e.q = o)
      · exact ih
      · rfl
theorem lookS_of {X Y : List Ex} {q : Qn} {n m : Int} (h : lookX X q n = lookX Y q m) : lookS X q n = lookS Y q m := by unfold lookS; rw [h]
theorem delX_len {X : List Ex} (ha : (ents X).Pairwise fun a b => a.q ≠ b.q) (q : Qn) : (delX X q).length + (if (findE (ents X) q).isSome then 1 else 0) = X.length := by
  have h1 : (kv (ents X)).Pairwise fun p q => p.1 ≠ q.1 := by unfold kv; rw [List.pairwise_map]; exact ha
  have h2 := del_len h1 q
  rw [kv_del, kv_find, kv_len, kv_len, ← delX_ents] at h2
  simpa using h2
theorem q_bool {a b : Qn} (h : a ≠ b) : (a.name.toList == b.name.toList && (a.ty == b.ty && (a.cl == b.cl))) = false := by
  rw [Bool.eq_false_iff]
  intro hh
  simp only [Bool.and_eq_true, beq_iff_eq] at hh
  exact h (qn_ext (ba_ext hh.1) hh.2.1 hh.2.2)
theorem same_kd {w : World} {ok ok' : Nat → Prop} (s : S35) {A A' : Option Addr} {c c' : Nat} (h : Kd.F k70 w ok A s.f1.length s.f1) (hc : s.f1.length ≤ c) (h' : Kd.F k70 w ok' A' s.f1.length s.f1) (hc' : s.f1.length ≤ c') :
    Calls Try.prog 19 #[.agg #[.string s.f0.f0, .int .u16 s.f0.f1, .int .u16 s.f0.f2, .slice A s.f1.length c, .int .i64 s.f2, .int .i64 s.f3, .int .u64 s.f4], .agg #[.string s.f0.f0, .int .u16 s.f0.f1, .int .u16 s.f0.f2, .slice A' s.f1.length c', .int .i64 s.f2, .int .i64 s.f3, .int .u64 s.f4]] w fun r w' => r = .returned (.bool true) ∧ Fr [] w w' :=
  (derrickref12_Same.calls (s.f1.length + 2) s.f0.f0 s.f0.f1 s.f0.f2 A c s.f1 s.f2 s.f3 s.f4 s.f0.f0 s.f0.f1 s.f0.f2 A' c' s.f1 s.f2 s.f3 s.f4 true w (Kd.F_now h) hc (Kd.F_now h') hc' (same_self _ _ _ _ _ _ _ (by omega) (Kd.F_now h).2.1)).mono fun _ _ ⟨h1, h2⟩ => ⟨h1, fr_below h2⟩

theorem alloc_of {w w1 : World} {o : Obj} (hw : w1 = w.alloc o) : Fr [] w w1 := by rw [hw]; exact (Fr.refl [] w).alloc _
theorem blk_of {w w1 : World} {T : TypeId} {c : List Value} (hw : w1 = w.alloc (.cells c.toArray T)) : Blk w1 w.heap.size T c := by rw [hw]; exact Blk.new _ _ _
theorem blk_ne_map {w : World} {p b g T : Nat} {room : Int} {L : List En} {c : List Value} (h : MAt w p b room L) (hb : Blk w g T c) (_ : True) : g ∉ [b] := by
  simp only [List.mem_singleton]
  exact fun e => map_ne h.map hb e.symm
attribute [local go_sem high] eqA25
set_option maxRecDepth 100000 in
set_option maxHeartbeats 8000000 in
theorem drops_calls {w : World} {v : Value} {ds : List Dd} (hD : DeedsAt w v ds) (q o : Qn) : Calls Try.prog 5 #[v, q.v, o.v] w fun r w' => r = .returned (.bool true) ∧ Fr [] w w' := by
  unfold Qn.v
  by_cases hoq : q = o
  · subst hoq
    go_enter Try.func5, Try.ntmps5
    go_upto_region 1 with (fail)
    refine wp_name ?_
    intro w0 hw0
    have hF : Fr [] w w0 := by rw [hw0]; exact ((Fr.refl [] w).alloc _).alloc _
    have hq : Blk w0 w.heap.size 25 [.string q.name, .int .u16 q.ty, .int .u16 q.cl] := by rw [hw0]; exact (Blk.new _ _ _).alloc _
    have ho : Blk w0 (w.heap.size + 1) 25 [.string q.name, .int .u16 q.ty, .int .u16 q.cl] := by
      rw [hw0]
      have h0 := Blk.new (w.alloc (.cells #[.string q.name, .int .u16 q.ty, .int .u16 q.cl] 25)) 25 [.string q.name, .int .u16 q.ty, .int .u16 q.cl]
      simp only [World.size_alloc] at h0
      exact h0
    have hD0 := hD.fr hF
    clear hw0
    obtain ⟨c1_0, c1_1, c1_2, c1_f⟩ := hq.cells3
    obtain ⟨c2_0, c2_1, c2_2, c2_f⟩ := ho.cells3
    go_wp2_with fail
    clear c1_0 c1_1 c1_2 c1_f c2_0 c2_1 c2_2 c2_f
    refine (shown_calls _).mono ?_
    rintro r ws ⟨rfl, hf⟩
    have hF_1 := hF.trans hf
    have hq_1 := hq.fr hf (by simp)
    have ho_1 := ho.fr hf (by simp)
    have hD_1 := hD0.fr hf
    clear hF hq ho hD0
    clear hf
    obtain ⟨c1_0, c1_1, c1_2, c1_f⟩ := hq_1.cells3
    obtain ⟨c2_0, c2_1, c2_2, c2_f⟩ := ho_1.cells3
    go_wp2_with fail
    clear c1_0 c1_1 c1_2 c1_f c2_0 c2_1 c2_2 c2_f
    refine (ran_calls hD_1).mono ?_
    rintro r wr_ ⟨p, b, X, v_, rfl, hDS, hX5, hf, hp, hb⟩
    have hqb : w.heap.size ∉ [b] := by have := hq_1.lt; simp; omega
    have hob : w.heap.size + 1 ∉ [b] := by have := ho_1.lt; simp; omega
    have hbw : w.heap.size ≤ b := by have := hF_1.size; omega
    clear hD_1
    have hF_2 := hF_1.trans hf
    have hq_2 := hq_1.fr hf (by simp)
    have ho_2 := ho_1.fr hf (by simp)
    clear hF_1 hq_1 ho_1
    clear hf hp hb
    have hM := hDS.m
    have hR := hDS.rr
    have HA := Hd.mk hDS.apart
    clear hDS
    obtain ⟨N, hN⟩ : ∃ N : Int, ((ents X).length : Int) = N := ⟨_, rfl⟩
    have hN0 : 0 ≤ N := by omega
    have hN5 : N ≤ 5 := by rw [List.length_map] at hN; omega
    obtain ⟨c1_0, c1_1, c1_2, c1_f⟩ := hq_2.cells3
    obtain ⟨c2_0, c2_1, c2_2, c2_f⟩ := ho_2.cells3
    go_wp2_with fail
    clear c1_0 c1_1 c1_2 c1_f c2_0 c2_1 c2_2 c2_f
    refine (len_calls hM).mono ?_
    rintro r wl ⟨rfl, rfl⟩
    rw [hN]
    have HN := Hd.mk hN
    clear hN
    obtain ⟨c1_0, c1_1, c1_2, c1_f⟩ := hq_2.cells3
    obtain ⟨c2_0, c2_1, c2_2, c2_f⟩ := ho_2.cells3
    go_wp2_with fail
    clear c1_0 c1_1 c1_2 c1_f c2_0 c2_1 c2_2 c2_f
    refine (has_calls hM q).mono ?_
    rintro r wh ⟨rfl, hf⟩
    have hF_3 := hF_2.trans hf
    have hq_3 := hq_2.fr hf (by simp)
    have ho_3 := ho_2.fr hf (by simp)
    have hM_1 := hM.fr hf (by simp) (by simp)
    have hR_1 := fun x hx => (hR x hx).step hf (by simp)
    clear hF_2 hq_2 ho_2 hM hR
    clear hf
    rcases ehad : (findE (ents X) q).isSome with _ | _
    · have EHAD := Hd.mk ehad
      clear ehad
      obtain ⟨c1_0, c1_1, c1_2, c1_f⟩ := hq_3.cells3
      obtain ⟨c2_0, c2_1, c2_2, c2_f⟩ := ho_3.cells3
      go_wp2_with fail
      clear c1_0 c1_1 c1_2 c1_f c2_0 c2_1 c2_2 c2_f
      refine (lookx_calls hM_1 hR_1 q 0).mono ?_
      rintro r wl1 ⟨hf, A1, c1, rfl, hl1, hK1⟩
      obtain ⟨s1, es1⟩ : ∃ s, lookS (X) q 0 = s := ⟨_, rfl⟩
      obtain ⟨i1, ei1⟩ : ∃ i, (lookX (X) q 0).isSome = i := ⟨_, rfl⟩
      rw [es1] at hl1 hK1
      rw [es1, ei1]
      have ES1 := Hd.mk es1
      have EI1 := Hd.mk ei1
      clear es1 ei1
      have hF_4 := hF_3.trans hf
      have hq_4 := hq_3.fr hf (by simp)
      have ho_4 := ho_3.fr hf (by simp)
      have hM_2 := hM_1.fr hf (by simp) (by simp)
      have hR_2 := fun x hx => (hR_1 x hx).step hf (by simp)
      clear hF_3 hq_3 ho_3 hM_1 hR_1
      clear hf
      obtain ⟨c1_0, c1_1, c1_2, c1_f⟩ := hq_4.cells3
      obtain ⟨c2_0, c2_1, c2_2, c2_f⟩ := ho_4.cells3
      go_upto_region 6 with (fail)
      clear c1_0 c1_1 c1_2 c1_f c2_0 c2_1 c2_2 c2_f
      refine wp_name ?_
      intro w_1 hw_
      have hf_w_1 := alloc_of hw_
      have hx := blk_of (T := 35) (c := [.string s1.f0.f0, .int .u16 s1.f0.f1, .int .u16 s1.f0.f2, .slice A1 s1.f1.length c1, .int .i64 s1.f2, .int .i64 s1.f3, .int .u64 s1.f4]) hw_
      clear hw_
      have hF_5 := hF_4.trans hf_w_1
      have hq_5 := hq_4.fr hf_w_1 (by simp)
      have ho_5 := ho_4.fr hf_w_1 (by simp)
      have hM_3 := hM_2.fr hf_w_1 (by simp) (by simp)
      have hR_3 := fun x hx => (hR_2 x hx).step hf_w_1 (by simp)
      have hK1_1 := Kd.F_step hK1 fun k hk hlt => hf_w_1.block k hlt (by simp)
      clear hF_4 hq_4 ho_4 hM_2 hR_2 hK1
      clear hf_w_1
      have hxb := blk_ne_map hM_3 hx (by decide)
      obtain ⟨c1_0, c1_1, c1_2, c1_f⟩ := hq_5.cells3
      obtain ⟨c2_0, c2_1, c2_2, c2_f⟩ := ho_5.cells3
      obtain ⟨c6_0, c6_1, c6_2, c6_3, c6_4, c6_5, c6_6, c6_f⟩ := hx.cells7
      go_wp2_with fail
      clear c1_0 c1_1 c1_2 c1_f c2_0 c2_1 c2_2 c2_f c6_0 c6_1 c6_2 c6_3 c6_4 c6_5 c6_6 c6_f
      refine (drop_calls hM_3 q).mono ?_
      rintro r wd1 ⟨rfl, hMd, hf⟩
      rw [EHAD.out]
      rw [← delX_ents] at hMd
      have hF_6 := hF_5.weak hf (by simpa using hbw)
      have hq_6 := hq_5.fr hf hqb
      have ho_6 := ho_5.fr hf hob
      have hR_4 := fun x hx => (hR_3 x hx).frb hf
      have hK1_2 := Kd.F_step hK1_1 fun k hk hlt => hf.block k hlt (by simpa using hk.2)
      have hx_1 := hx.fr hf hxb
      clear hF_5 hq_5 ho_5 hM_3 hR_3 hK1_1 hx
      clear hf
      have hRd := fun x hx => hR_4 x (mem_delX (q := q) hx)
      obtain ⟨c1_0, c1_1, c1_2, c1_f⟩ := hq_6.cells3
      obtain ⟨c2_0, c2_1, c2_2, c2_f⟩ := ho_6.cells3
      obtain ⟨c6_0, c6_1, c6_2, c6_3, c6_4, c6_5, c6_6, c6_f⟩ := hx_1.cells7
      go_wp2_with fail
      clear c1_0 c1_1 c1_2 c1_f c2_0 c2_1 c2_2 c2_f c6_0 c6_1 c6_2 c6_3 c6_4 c6_5 c6_6 c6_f
      refine (drop_calls hMd q).mono ?_
      rintro r wd2 ⟨rfl, hMe, hf⟩
      rw [find_delX_same]
      rw [← delX_ents, delX_delX] at hMe
      have hF_7 := hF_6.weak hf (by simpa using hbw)
      have hq_7 := hq_6.fr hf hqb
      have ho_7 := ho_6.fr hf hob
      have hR_5 := fun x hx => (hRd x hx).frb hf
      have hK1_3 := Kd.F_step hK1_2 fun k hk hlt => hf.block k hlt (by simpa using hk.2)
      have hx_2 := hx_1.fr hf hxb
      clear hF_6 hq_6 ho_6 hMd hRd hK1_2 hx_1
      clear hf
      obtain ⟨c1_0, c1_1, c1_2, c1_f⟩ := hq_7.cells3
      obtain ⟨c2_0, c2_1, c2_2, c2_f⟩ := ho_7.cells3
      obtain ⟨c6_0, c6_1, c6_2, c6_3, c6_4, c6_5, c6_6, c6_f⟩ := hx_2.cells7
      go_wp2_with fail
      clear c1_0 c1_1 c1_2 c1_f c2_0 c2_1 c2_2 c2_f c6_0 c6_1 c6_2 c6_3 c6_4 c6_5 c6_6 c6_f
      refine (lookx_calls hMe hR_5 q 0).mono ?_
      rintro r wl2 ⟨hf, A2, c2, rfl, hl2, hK2⟩
      obtain ⟨s2, es2⟩ : ∃ s, lookS (delX X q) q 0 = s := ⟨_, rfl⟩
      obtain ⟨i2, ei2⟩ : ∃ i, (lookX (delX X q) q 0).isSome = i := ⟨_, rfl⟩
      rw [es2] at hl2 hK2
      rw [es2, ei2]
      have ES2 := Hd.mk es2
      have EI2 := Hd.mk ei2
      clear es2 ei2
      have hF_8 := hF_7.trans hf
      have hq_8 := hq_7.fr hf (by simp)
      have ho_8 := ho_7.fr hf (by simp)
      have hM_6 := hMe.fr hf (by simp) (by simp)
      have hR_6 := fun x hx => (hR_5 x hx).step hf (by simp)
      have hK1_4 := Kd.F_step hK1_3 fun k hk hlt => hf.block k hlt (by simp)
      have hx_3 := hx_2.fr hf (by simp)
      clear hF_7 hq_7 ho_7 hMe hR_5 hK1_3 hx_2
      clear hf
      simp only [Option.isSome_none]
      obtain ⟨c1_0, c1_1, c1_2, c1_f⟩ := hq_8.cells3
      obtain ⟨c2_0, c2_1, c2_2, c2_f⟩ := ho_8.cells3
      obtain ⟨c6_0, c6_1, c6_2, c6_3, c6_4, c6_5, c6_6, c6_f⟩ := hx_3.cells7
      go_upto_region 9 with (fail)
      clear c1_0 c1_1 c1_2 c1_f c2_0 c2_1 c2_2 c2_f c6_0 c6_1 c6_2 c6_3 c6_4 c6_5 c6_6 c6_f
      refine wp_name ?_
      intro w_2 hw_
      have hf_w_2 := alloc_of hw_
      have hy := blk_of (T := 35) (c := [.string s2.f0.f0, .int .u16 s2.f0.f1, .int .u16 s2.f0.f2, .slice A2 s2.f1.length c2, .int .i64 s2.f2, .int .i64 s2.f3, .int .u64 s2.f4]) hw_
      clear hw_
      have hF_9 := hF_8.trans hf_w_2
      have hq_9 := hq_8.fr hf_w_2 (by simp)
      have ho_9 := ho_8.fr hf_w_2 (by simp)
      have hM_7 := hM_6.fr hf_w_2 (by simp) (by simp)
      have hR_7 := fun x hx => (hR_6 x hx).step hf_w_2 (by simp)
      have hK1_5 := Kd.F_step hK1_4 fun k hk hlt => hf_w_2.block k hlt (by simp)
      have hx_4 := hx_3.fr hf_w_2 (by simp)
      have hK2_1 := Kd.F_step hK2 fun k hk hlt => hf_w_2.block k hlt (by simp)
      clear hF_8 hq_8 ho_8 hM_6 hR_6 hK1_4 hx_3 hK2
      clear hf_w_2
      obtain ⟨c1_0, c1_1, c1_2, c1_f⟩ := hq_9.cells3
      obtain ⟨c2_0, c2_1, c2_2, c2_f⟩ := ho_9.cells3
      obtain ⟨c6_0, c6_1, c6_2, c6_3, c6_4, c6_5, c6_6, c6_f⟩ := hx_4.cells7
      obtain ⟨c8_0, c8_1, c8_2, c8_3, c8_4, c8_5, c8_6, c8_f⟩ := hy.cells7
      go_wp2_with fail
      clear c1_0 c1_1 c1_2 c1_f c2_0 c2_1 c2_2 c2_f c6_0 c6_1 c6_2 c6_3 c6_4 c6_5 c6_6 c6_f c8_0 c8_1 c8_2 c8_3 c8_4 c8_5 c8_6 c8_f
      refine (has_calls hM_7 q).mono ?_
      rintro r wh2 ⟨rfl, hf⟩
      have hF_10 := hF_9.trans hf
      have hq_10 := hq_9.fr hf (by simp)
      have ho_10 := ho_9.fr hf (by simp)
      have hM_8 := hM_7.fr hf (by simp) (by simp)
      have hR_8 := fun x hx => (hR_7 x hx).step hf (by simp)
      have hK1_6 := Kd.F_step hK1_5 fun k hk hlt => hf.block k hlt (by simp)
      have hx_5 := hx_4.fr hf (by simp)
      have hK2_2 := Kd.F_step hK2_1 fun k hk hlt => hf.block k hlt (by simp)
      have hy_1 := hy.fr hf (by simp)
      clear hF_9 hq_9 ho_9 hM_7 hR_7 hK1_5 hx_4 hK2_1 hy
      clear hf
      rw [find_delX_same]
      simp only [Option.isSome_none]
      obtain ⟨c1_0, c1_1, c1_2, c1_f⟩ := hq_10.cells3
      obtain ⟨c2_0, c2_1, c2_2, c2_f⟩ := ho_10.cells3
      obtain ⟨c6_0, c6_1, c6_2, c6_3, c6_4, c6_5, c6_6, c6_f⟩ := hx_5.cells7
      obtain ⟨c8_0, c8_1, c8_2, c8_3, c8_4, c8_5, c8_6, c8_f⟩ := hy_1.cells7
      go_wp2_with fail
      clear c1_0 c1_1 c1_2 c1_f c2_0 c2_1 c2_2 c2_f c6_0 c6_1 c6_2 c6_3 c6_4 c6_5 c6_6 c6_f c8_0 c8_1 c8_2 c8_3 c8_4 c8_5 c8_6 c8_f
      refine (len_calls hM_8).mono ?_
      rintro r wl2 ⟨rfl, rfl⟩
      have hL : ((ents (delX X q)).length : Int) = N := by
        have h1 := delX_len HA.out q
        rw [EHAD.out] at h1
        have h2 := HN.out
        rw [List.length_map] at h2 ⊢
        simp at h1
        omega
      rw [hL]
      clear hL
      obtain ⟨c1_0, c1_1, c1_2, c1_f⟩ := hq_10.cells3
      obtain ⟨c2_0, c2_1, c2_2, c2_f⟩ := ho_10.cells3
      obtain ⟨c6_0, c6_1, c6_2, c6_3, c6_4, c6_5, c6_6, c6_f⟩ := hx_5.cells7
      obtain ⟨c8_0, c8_1, c8_2, c8_3, c8_4, c8_5, c8_6, c8_f⟩ := hy_1.cells7
      have HF := Hd.mk hF_10
      clear hF_10
      go_wp2
      go_ret
      exact ⟨rfl, HF.out⟩
    · have hN1 : 1 ≤ N := by
        have h1 := delX_len HA.out q
        rw [ehad] at h1
        have h2 := HN.out
        rw [List.length_map] at h2
        simp at h1
        omega
      have EHAD := Hd.mk ehad
      clear ehad
      obtain ⟨c1_0, c1_1, c1_2, c1_f⟩ := hq_3.cells3
      obtain ⟨c2_0, c2_1, c2_2, c2_f⟩ := ho_3.cells3
      go_wp2_with fail
      clear c1_0 c1_1 c1_2 c1_f c2_0 c2_1 c2_2 c2_f
      refine (lookx_calls hM_1 hR_1 q 0).mono ?_
      rintro r wl1 ⟨hf, A1, c1, rfl, hl1, hK1⟩
      obtain ⟨s1, es1⟩ : ∃ s, lookS (X) q 0 = s := ⟨_, rfl⟩
      obtain ⟨i1, ei1⟩ : ∃ i, (lookX (X) q 0).isSome = i := ⟨_, rfl⟩
      rw [es1] at hl1 hK1
      rw [es1, ei1]
      have ES1 := Hd.mk es1
      have EI1 := Hd.mk ei1
      clear es1 ei1
      have hF_4 := hF_3.trans hf
      have hq_4 := hq_3.fr hf (by simp)
      have ho_4 := ho_3.fr hf (by simp)
      have hM_2 := hM_1.fr hf (by simp) (by simp)
      have hR_2 := fun x hx => (hR_1 x hx).step hf (by simp)
      clear hF_3 hq_3 ho_3 hM_1 hR_1
      clear hf
      obtain ⟨c1_0, c1_1, c1_2, c1_f⟩ := hq_4.cells3
      obtain ⟨c2_0, c2_1, c2_2, c2_f⟩ := ho_4.cells3
      go_upto_region 6 with (fail)
      clear c1_0 c1_1 c1_2 c1_f c2_0 c2_1 c2_2 c2_f
      refine wp_name ?_
      intro w_1 hw_
      have hf_w_1 := alloc_of hw_
      have hx := blk_of (T := 35) (c := [.string s1.f0.f0, .int .u16 s1.f0.f1, .int .u16 s1.f0.f2, .slice A1 s1.f1.length c1, .int .i64 s1.f2, .int .i64 s1.f3, .int .u64 s1.f4]) hw_
      clear hw_
      have hF_5 := hF_4.trans hf_w_1
      have hq_5 := hq_4.fr hf_w_1 (by simp)
      have ho_5 := ho_4.fr hf_w_1 (by simp)
      have hM_3 := hM_2.fr hf_w_1 (by simp) (by simp)
      have hR_3 := fun x hx => (hR_2 x hx).step hf_w_1 (by simp)
      have hK1_1 := Kd.F_step hK1 fun k hk hlt => hf_w_1.block k hlt (by simp)
      clear hF_4 hq_4 ho_4 hM_2 hR_2 hK1
      clear hf_w_1
      have hxb := blk_ne_map hM_3 hx (by decide)
      obtain ⟨c1_0, c1_1, c1_2, c1_f⟩ := hq_5.cells3
      obtain ⟨c2_0, c2_1, c2_2, c2_f⟩ := ho_5.cells3
      obtain ⟨c6_0, c6_1, c6_2, c6_3, c6_4, c6_5, c6_6, c6_f⟩ := hx.cells7
      go_wp2_with fail
      clear c1_0 c1_1 c1_2 c1_f c2_0 c2_1 c2_2 c2_f c6_0 c6_1 c6_2 c6_3 c6_4 c6_5 c6_6 c6_f
      refine (drop_calls hM_3 q).mono ?_
      rintro r wd1 ⟨rfl, hMd, hf⟩
      rw [EHAD.out]
      rw [← delX_ents] at hMd
      have hF_6 := hF_5.weak hf (by simpa using hbw)
      have hq_6 := hq_5.fr hf hqb
      have ho_6 := ho_5.fr hf hob
      have hR_4 := fun x hx => (hR_3 x hx).frb hf
      have hK1_2 := Kd.F_step hK1_1 fun k hk hlt => hf.block k hlt (by simpa using hk.2)
      have hx_1 := hx.fr hf hxb
      clear hF_5 hq_5 ho_5 hM_3 hR_3 hK1_1 hx
      clear hf
      have hRd := fun x hx => hR_4 x (mem_delX (q := q) hx)
      obtain ⟨c1_0, c1_1, c1_2, c1_f⟩ := hq_6.cells3
      obtain ⟨c2_0, c2_1, c2_2, c2_f⟩ := ho_6.cells3
      obtain ⟨c6_0, c6_1, c6_2, c6_3, c6_4, c6_5, c6_6, c6_f⟩ := hx_1.cells7
      go_wp2_with fail
      clear c1_0 c1_1 c1_2 c1_f c2_0 c2_1 c2_2 c2_f c6_0 c6_1 c6_2 c6_3 c6_4 c6_5 c6_6 c6_f
      refine (drop_calls hMd q).mono ?_
      rintro r wd2 ⟨rfl, hMe, hf⟩
      rw [find_delX_same]
      rw [← delX_ents, delX_delX] at hMe
      have hF_7 := hF_6.weak hf (by simpa using hbw)
      have hq_7 := hq_6.fr hf hqb
      have ho_7 := ho_6.fr hf hob
      have hR_5 := fun x hx => (hRd x hx).frb hf
      have hK1_3 := Kd.F_step hK1_2 fun k hk hlt => hf.block k hlt (by simpa using hk.2)
      have hx_2 := hx_1.fr hf hxb
      clear hF_6 hq_6 ho_6 hMd hRd hK1_2 hx_1
      clear hf
      obtain ⟨c1_0, c1_1, c1_2, c1_f⟩ := hq_7.cells3
      obtain ⟨c2_0, c2_1, c2_2, c2_f⟩ := ho_7.cells3
      obtain ⟨c6_0, c6_1, c6_2, c6_3, c6_4, c6_5, c6_6, c6_f⟩ := hx_2.cells7
      go_wp2_with fail
      clear c1_0 c1_1 c1_2 c1_f c2_0 c2_1 c2_2 c2_f c6_0 c6_1 c6_2 c6_3 c6_4 c6_5 c6_6 c6_f
      refine (lookx_calls hMe hR_5 q 0).mono ?_
      rintro r wl2 ⟨hf, A2, c2, rfl, hl2, hK2⟩
      obtain ⟨s2, es2⟩ : ∃ s, lookS (delX X q) q 0 = s := ⟨_, rfl⟩
      obtain ⟨i2, ei2⟩ : ∃ i, (lookX (delX X q) q 0).isSome = i := ⟨_, rfl⟩
      rw [es2] at hl2 hK2
      rw [es2, ei2]
      have ES2 := Hd.mk es2
      have EI2 := Hd.mk ei2
      clear es2 ei2
      have hF_8 := hF_7.trans hf
      have hq_8 := hq_7.fr hf (by simp)
      have ho_8 := ho_7.fr hf (by simp)
      have hM_6 := hMe.fr hf (by simp) (by simp)
      have hR_6 := fun x hx => (hR_5 x hx).step hf (by simp)
      have hK1_4 := Kd.F_step hK1_3 fun k hk hlt => hf.block k hlt (by simp)
      have hx_3 := hx_2.fr hf (by simp)
      clear hF_7 hq_7 ho_7 hMe hR_5 hK1_3 hx_2
      clear hf
      simp only [Option.isSome_none]
      obtain ⟨c1_0, c1_1, c1_2, c1_f⟩ := hq_8.cells3
      obtain ⟨c2_0, c2_1, c2_2, c2_f⟩ := ho_8.cells3
      obtain ⟨c6_0, c6_1, c6_2, c6_3, c6_4, c6_5, c6_6, c6_f⟩ := hx_3.cells7
      go_upto_region 9 with (fail)
      clear c1_0 c1_1 c1_2 c1_f c2_0 c2_1 c2_2 c2_f c6_0 c6_1 c6_2 c6_3 c6_4 c6_5 c6_6 c6_f
      refine wp_name ?_
      intro w_2 hw_
      have hf_w_2 := alloc_of hw_
      have hy := blk_of (T := 35) (c := [.string s2.f0.f0, .int .u16 s2.f0.f1, .int .u16 s2.f0.f2, .slice A2 s2.f1.length c2, .int .i64 s2.f2, .int .i64 s2.f3, .int .u64 s2.f4]) hw_
      clear hw_
      have hF_9 := hF_8.trans hf_w_2
      have hq_9 := hq_8.fr hf_w_2 (by simp)
      have ho_9 := ho_8.fr hf_w_2 (by simp)
      have hM_7 := hM_6.fr hf_w_2 (by simp) (by simp)
      have hR_7 := fun x hx => (hR_6 x hx).step hf_w_2 (by simp)
      have hK1_5 := Kd.F_step hK1_4 fun k hk hlt => hf_w_2.block k hlt (by simp)
      have hx_4 := hx_3.fr hf_w_2 (by simp)
      have hK2_1 := Kd.F_step hK2 fun k hk hlt => hf_w_2.block k hlt (by simp)
      clear hF_8 hq_8 ho_8 hM_6 hR_6 hK1_4 hx_3 hK2
      clear hf_w_2
      obtain ⟨c1_0, c1_1, c1_2, c1_f⟩ := hq_9.cells3
      obtain ⟨c2_0, c2_1, c2_2, c2_f⟩ := ho_9.cells3
      obtain ⟨c6_0, c6_1, c6_2, c6_3, c6_4, c6_5, c6_6, c6_f⟩ := hx_4.cells7
      obtain ⟨c8_0, c8_1, c8_2, c8_3, c8_4, c8_5, c8_6, c8_f⟩ := hy.cells7
      go_wp2_with fail
      clear c1_0 c1_1 c1_2 c1_f c2_0 c2_1 c2_2 c2_f c6_0 c6_1 c6_2 c6_3 c6_4 c6_5 c6_6 c6_f c8_0 c8_1 c8_2 c8_3 c8_4 c8_5 c8_6 c8_f
      refine (has_calls hM_7 q).mono ?_
      rintro r wh2 ⟨rfl, hf⟩
      have hF_10 := hF_9.trans hf
      have hq_10 := hq_9.fr hf (by simp)
      have ho_10 := ho_9.fr hf (by simp)
      have hM_8 := hM_7.fr hf (by simp) (by simp)
      have hR_8 := fun x hx => (hR_7 x hx).step hf (by simp)
      have hK1_6 := Kd.F_step hK1_5 fun k hk hlt => hf.block k hlt (by simp)
      have hx_5 := hx_4.fr hf (by simp)
      have hK2_2 := Kd.F_step hK2_1 fun k hk hlt => hf.block k hlt (by simp)
      have hy_1 := hy.fr hf (by simp)
      clear hF_9 hq_9 ho_9 hM_7 hR_7 hK1_5 hx_4 hK2_1 hy
      clear hf
      rw [find_delX_same]
      simp only [Option.isSome_none]
      obtain ⟨c1_0, c1_1, c1_2, c1_f⟩ := hq_10.cells3
      obtain ⟨c2_0, c2_1, c2_2, c2_f⟩ := ho_10.cells3
      obtain ⟨c6_0, c6_1, c6_2, c6_3, c6_4, c6_5, c6_6, c6_f⟩ := hx_5.cells7
      obtain ⟨c8_0, c8_1, c8_2, c8_3, c8_4, c8_5, c8_6, c8_f⟩ := hy_1.cells7
      go_wp2_with fail
      clear c1_0 c1_1 c1_2 c1_f c2_0 c2_1 c2_2 c2_f c6_0 c6_1 c6_2 c6_3 c6_4 c6_5 c6_6 c6_f c8_0 c8_1 c8_2 c8_3 c8_4 c8_5 c8_6 c8_f
      refine (len_calls hM_8).mono ?_
      rintro r wl2 ⟨rfl, rfl⟩
      have hL : ((ents (delX X q)).length : Int) = N - 1 := by
        have h1 := delX_len HA.out q
        rw [EHAD.out] at h1
        have h2 := HN.out
        rw [List.length_map] at h2 ⊢
        simp at h1
        omega
      rw [hL]
      clear hL
      obtain ⟨c1_0, c1_1, c1_2, c1_f⟩ := hq_10.cells3
      obtain ⟨c2_0, c2_1, c2_2, c2_f⟩ := ho_10.cells3
      obtain ⟨c6_0, c6_1, c6_2, c6_3, c6_4, c6_5, c6_6, c6_f⟩ := hx_5.cells7
      obtain ⟨c8_0, c8_1, c8_2, c8_3, c8_4, c8_5, c8_6, c8_f⟩ := hy_1.cells7
      have HF := Hd.mk hF_10
      clear hF_10
      go_wp2
      go_ret
      exact ⟨rfl, HF.out⟩
  · have hqo := q_bool (Ne.symm hoq)
    have hne := Ne.symm hoq
    clear hoq
    go_enter Try.func5, Try.ntmps5
    go_upto_region 1 with (fail)
    refine wp_name ?_
    intro w0 hw0
    have hF : Fr [] w w0 := by rw [hw0]; exact ((Fr.refl [] w).alloc _).alloc _
    have hq : Blk w0 w.heap.size 25 [.string q.name, .int .u16 q.ty, .int .u16 q.cl] := by rw [hw0]; exact (Blk.new _ _ _).alloc _
    have ho : Blk w0 (w.heap.size + 1) 25 [.string o.name, .int .u16 o.ty, .int .u16 o.cl] := by
      rw [hw0]
      have h0 := Blk.new (w.alloc (.cells #[.string q.name, .int .u16 q.ty, .int .u16 q.cl] 25)) 25 [.string o.name, .int .u16 o.ty, .int .u16 o.cl]
      simp only [World.size_alloc] at h0
      exact h0
    have hD0 := hD.fr hF
    clear hw0
    obtain ⟨c1_0, c1_1, c1_2, c1_f⟩ := hq.cells3
    obtain ⟨c2_0, c2_1, c2_2, c2_f⟩ := ho.cells3
    go_wp2_with fail
    clear c1_0 c1_1 c1_2 c1_f c2_0 c2_1 c2_2 c2_f
    refine (shown_calls _).mono ?_
    rintro r ws ⟨rfl, hf⟩
    have hF_1 := hF.trans hf
    have hq_1 := hq.fr hf (by simp)
    have ho_1 := ho.fr hf (by simp)
    have hD_1 := hD0.fr hf
    clear hF hq ho hD0
    clear hf
    obtain ⟨c1_0, c1_1, c1_2, c1_f⟩ := hq_1.cells3
    obtain ⟨c2_0, c2_1, c2_2, c2_f⟩ := ho_1.cells3
    go_wp2_with fail
    clear c1_0 c1_1 c1_2 c1_f c2_0 c2_1 c2_2 c2_f
    refine (ran_calls hD_1).mono ?_
    rintro r wr_ ⟨p, b, X, v_, rfl, hDS, hX5, hf, hp, hb⟩
    have hqb : w.heap.size ∉ [b] := by have := hq_1.lt; simp; omega
    have hob : w.heap.size + 1 ∉ [b] := by have := ho_1.lt; simp; omega
    have hbw : w.heap.size ≤ b := by have := hF_1.size; omega
    clear hD_1
    have hF_2 := hF_1.trans hf
    have hq_2 := hq_1.fr hf (by simp)
    have ho_2 := ho_1.fr hf (by simp)
    clear hF_1 hq_1 ho_1
    clear hf hp hb
    have hM := hDS.m
    have hR := hDS.rr
    have HA := Hd.mk hDS.apart
    clear hDS
    obtain ⟨N, hN⟩ : ∃ N : Int, ((ents X).length : Int) = N := ⟨_, rfl⟩
    have hN0 : 0 ≤ N := by omega
    have hN5 : N ≤ 5 := by rw [List.length_map] at hN; omega
    obtain ⟨c1_0, c1_1, c1_2, c1_f⟩ := hq_2.cells3
    obtain ⟨c2_0, c2_1, c2_2, c2_f⟩ := ho_2.cells3
    go_wp2_with fail
    clear c1_0 c1_1 c1_2 c1_f c2_0 c2_1 c2_2 c2_f
    refine (len_calls hM).mono ?_
    rintro r wl ⟨rfl, rfl⟩
    rw [hN]
    have HN := Hd.mk hN
    clear hN
    obtain ⟨c1_0, c1_1, c1_2, c1_f⟩ := hq_2.cells3
    obtain ⟨c2_0, c2_1, c2_2, c2_f⟩ := ho_2.cells3
    go_wp2_with fail
    clear c1_0 c1_1 c1_2 c1_f c2_0 c2_1 c2_2 c2_f
    refine (has_calls hM q).mono ?_
    rintro r wh ⟨rfl, hf⟩
    have hF_3 := hF_2.trans hf
    have hq_3 := hq_2.fr hf (by simp)
    have ho_3 := ho_2.fr hf (by simp)
    have hM_1 := hM.fr hf (by simp) (by simp)
    have hR_1 := fun x hx => (hR x hx).step hf (by simp)
    clear hF_2 hq_2 ho_2 hM hR
    clear hf
    rcases ehad : (findE (ents X) q).isSome with _ | _
    · have EHAD := Hd.mk ehad
      clear ehad
      obtain ⟨c1_0, c1_1, c1_2, c1_f⟩ := hq_3.cells3
      obtain ⟨c2_0, c2_1, c2_2, c2_f⟩ := ho_3.cells3
      go_wp2_with fail
      clear c1_0 c1_1 c1_2 c1_f c2_0 c2_1 c2_2 c2_f
      refine (lookx_calls hM_1 hR_1 o 0).mono ?_
      rintro r wl1 ⟨hf, A1, c1, rfl, hl1, hK1⟩
      obtain ⟨s1, es1⟩ : ∃ s, lookS (X) o 0 = s := ⟨_, rfl⟩
      obtain ⟨i1, ei1⟩ : ∃ i, (lookX (X) o 0).isSome = i := ⟨_, rfl⟩
      rw [es1] at hl1 hK1
      rw [es1, ei1]
      have ES1 := Hd.mk es1
      have EI1 := Hd.mk ei1
      clear es1 ei1
      have hF_4 := hF_3.trans hf
      have hq_4 := hq_3.fr hf (by simp)
      have ho_4 := ho_3.fr hf (by simp)
      have hM_2 := hM_1.fr hf (by simp) (by simp)
      have hR_2 := fun x hx => (hR_1 x hx).step hf (by simp)
      clear hF_3 hq_3 ho_3 hM_1 hR_1
      clear hf
      obtain ⟨c1_0, c1_1, c1_2, c1_f⟩ := hq_4.cells3
      obtain ⟨c2_0, c2_1, c2_2, c2_f⟩ := ho_4.cells3
      go_upto_region 6 with (fail)
      clear c1_0 c1_1 c1_2 c1_f c2_0 c2_1 c2_2 c2_f
      refine wp_name ?_
      intro w_1 hw_
      have hf_w_1 := alloc_of hw_
      have hx := blk_of (T := 35) (c := [.string s1.f0.f0, .int .u16 s1.f0.f1, .int .u16 s1.f0.f2, .slice A1 s1.f1.length c1, .int .i64 s1.f2, .int .i64 s1.f3, .int .u64 s1.f4]) hw_
      clear hw_
      have hF_5 := hF_4.trans hf_w_1
      have hq_5 := hq_4.fr hf_w_1 (by simp)
      have ho_5 := ho_4.fr hf_w_1 (by simp)
      have hM_3 := hM_2.fr hf_w_1 (by simp) (by simp)
      have hR_3 := fun x hx => (hR_2 x hx).step hf_w_1 (by simp)
      have hK1_1 := Kd.F_step hK1 fun k hk hlt => hf_w_1.block k hlt (by simp)
      clear hF_4 hq_4 ho_4 hM_2 hR_2 hK1
      clear hf_w_1
      have hxb := blk_ne_map hM_3 hx (by decide)
      obtain ⟨c1_0, c1_1, c1_2, c1_f⟩ := hq_5.cells3
      obtain ⟨c2_0, c2_1, c2_2, c2_f⟩ := ho_5.cells3
      obtain ⟨c6_0, c6_1, c6_2, c6_3, c6_4, c6_5, c6_6, c6_f⟩ := hx.cells7
      go_wp2_with fail
      clear c1_0 c1_1 c1_2 c1_f c2_0 c2_1 c2_2 c2_f c6_0 c6_1 c6_2 c6_3 c6_4 c6_5 c6_6 c6_f
      refine (drop_calls hM_3 q).mono ?_
      rintro r wd1 ⟨rfl, hMd, hf⟩
      rw [EHAD.out]
      rw [← delX_ents] at hMd
      have hF_6 := hF_5.weak hf (by simpa using hbw)
      have hq_6 := hq_5.fr hf hqb
      have ho_6 := ho_5.fr hf hob
      have hR_4 := fun x hx => (hR_3 x hx).frb hf
      have hK1_2 := Kd.F_step hK1_1 fun k hk hlt => hf.block k hlt (by simpa using hk.2)
      have hx_1 := hx.fr hf hxb
      clear hF_5 hq_5 ho_5 hM_3 hR_3 hK1_1 hx
      clear hf
      have hRd := fun x hx => hR_4 x (mem_delX (q := q) hx)
      obtain ⟨c1_0, c1_1, c1_2, c1_f⟩ := hq_6.cells3
      obtain ⟨c2_0, c2_1, c2_2, c2_f⟩ := ho_6.cells3
      obtain ⟨c6_0, c6_1, c6_2, c6_3, c6_4, c6_5, c6_6, c6_f⟩ := hx_1.cells7
      go_wp2_with fail
      clear c1_0 c1_1 c1_2 c1_f c2_0 c2_1 c2_2 c2_f c6_0 c6_1 c6_2 c6_3 c6_4 c6_5 c6_6 c6_f
      refine (drop_calls hMd q).mono ?_
      rintro r wd2 ⟨rfl, hMe, hf⟩
      rw [find_delX_same]
      rw [← delX_ents, delX_delX] at hMe
      have hF_7 := hF_6.weak hf (by simpa using hbw)
      have hq_7 := hq_6.fr hf hqb
      have ho_7 := ho_6.fr hf hob
      have hR_5 := fun x hx => (hRd x hx).frb hf
      have hK1_3 := Kd.F_step hK1_2 fun k hk hlt => hf.block k hlt (by simpa using hk.2)
      have hx_2 := hx_1.fr hf hxb
      clear hF_6 hq_6 ho_6 hMd hRd hK1_2 hx_1
      clear hf
      obtain ⟨c1_0, c1_1, c1_2, c1_f⟩ := hq_7.cells3
      obtain ⟨c2_0, c2_1, c2_2, c2_f⟩ := ho_7.cells3
      obtain ⟨c6_0, c6_1, c6_2, c6_3, c6_4, c6_5, c6_6, c6_f⟩ := hx_2.cells7
      go_wp2_with fail
      clear c1_0 c1_1 c1_2 c1_f c2_0 c2_1 c2_2 c2_f c6_0 c6_1 c6_2 c6_3 c6_4 c6_5 c6_6 c6_f
      refine (lookx_calls hMe hR_5 o 0).mono ?_
      rintro r wl2 ⟨hf, A2, c2, rfl, hl2, hK2⟩
      obtain ⟨s2, es2⟩ : ∃ s, lookS (delX X q) o 0 = s := ⟨_, rfl⟩
      obtain ⟨i2, ei2⟩ : ∃ i, (lookX (delX X q) o 0).isSome = i := ⟨_, rfl⟩
      rw [es2] at hl2 hK2
      rw [es2, ei2]
      have ES2 := Hd.mk es2
      have EI2 := Hd.mk ei2
      clear es2 ei2
      have hF_8 := hF_7.trans hf
      have hq_8 := hq_7.fr hf (by simp)
      have ho_8 := ho_7.fr hf (by simp)
      have hM_6 := hMe.fr hf (by simp) (by simp)
      have hR_6 := fun x hx => (hR_5 x hx).step hf (by simp)
      have hK1_4 := Kd.F_step hK1_3 fun k hk hlt => hf.block k hlt (by simp)
      have hx_3 := hx_2.fr hf (by simp)
      clear hF_7 hq_7 ho_7 hMe hR_5 hK1_3 hx_2
      clear hf
      simp only [Option.isSome_none]
      have hl := lookX_del hne (X := X) 0
      have he1 : s2 = s1 := by rw [← ES2.out, ← ES1.out]; exact lookS_of hl
      have he2 : i2 = i1 := by rw [← EI2.out, ← EI1.out, hl]
      subst he1 he2
      clear hl
      obtain ⟨c1_0, c1_1, c1_2, c1_f⟩ := hq_8.cells3
      obtain ⟨c2_0, c2_1, c2_2, c2_f⟩ := ho_8.cells3
      obtain ⟨c6_0, c6_1, c6_2, c6_3, c6_4, c6_5, c6_6, c6_f⟩ := hx_3.cells7
      go_upto_region 9 with (fail)
      clear c1_0 c1_1 c1_2 c1_f c2_0 c2_1 c2_2 c2_f c6_0 c6_1 c6_2 c6_3 c6_4 c6_5 c6_6 c6_f
      refine wp_name ?_
      intro w_2 hw_
      have hf_w_2 := alloc_of hw_
      have hy := blk_of (T := 35) (c := [.string s2.f0.f0, .int .u16 s2.f0.f1, .int .u16 s2.f0.f2, .slice A2 s2.f1.length c2, .int .i64 s2.f2, .int .i64 s2.f3, .int .u64 s2.f4]) hw_
      clear hw_
      have hF_9 := hF_8.trans hf_w_2
      have hq_9 := hq_8.fr hf_w_2 (by simp)
      have ho_9 := ho_8.fr hf_w_2 (by simp)
      have hM_7 := hM_6.fr hf_w_2 (by simp) (by simp)
      have hR_7 := fun x hx => (hR_6 x hx).step hf_w_2 (by simp)
      have hK1_5 := Kd.F_step hK1_4 fun k hk hlt => hf_w_2.block k hlt (by simp)
      have hx_4 := hx_3.fr hf_w_2 (by simp)
      have hK2_1 := Kd.F_step hK2 fun k hk hlt => hf_w_2.block k hlt (by simp)
      clear hF_8 hq_8 ho_8 hM_6 hR_6 hK1_4 hx_3 hK2
      clear hf_w_2
      obtain ⟨c1_0, c1_1, c1_2, c1_f⟩ := hq_9.cells3
      obtain ⟨c2_0, c2_1, c2_2, c2_f⟩ := ho_9.cells3
      obtain ⟨c6_0, c6_1, c6_2, c6_3, c6_4, c6_5, c6_6, c6_f⟩ := hx_4.cells7
      obtain ⟨c8_0, c8_1, c8_2, c8_3, c8_4, c8_5, c8_6, c8_f⟩ := hy.cells7
      go_wp2_with fail
      clear c1_0 c1_1 c1_2 c1_f c2_0 c2_1 c2_2 c2_f c6_0 c6_1 c6_2 c6_3 c6_4 c6_5 c6_6 c6_f c8_0 c8_1 c8_2 c8_3 c8_4 c8_5 c8_6 c8_f
      refine (has_calls hM_7 q).mono ?_
      rintro r wh2 ⟨rfl, hf⟩
      have hF_10 := hF_9.trans hf
      have hq_10 := hq_9.fr hf (by simp)
      have ho_10 := ho_9.fr hf (by simp)
      have hM_8 := hM_7.fr hf (by simp) (by simp)
      have hR_8 := fun x hx => (hR_7 x hx).step hf (by simp)
      have hK1_6 := Kd.F_step hK1_5 fun k hk hlt => hf.block k hlt (by simp)
      have hx_5 := hx_4.fr hf (by simp)
      have hK2_2 := Kd.F_step hK2_1 fun k hk hlt => hf.block k hlt (by simp)
      have hy_1 := hy.fr hf (by simp)
      clear hF_9 hq_9 ho_9 hM_7 hR_7 hK1_5 hx_4 hK2_1 hy
      clear hf
      rw [find_delX_same]
      simp only [Option.isSome_none]
      obtain ⟨c1_0, c1_1, c1_2, c1_f⟩ := hq_10.cells3
      obtain ⟨c2_0, c2_1, c2_2, c2_f⟩ := ho_10.cells3
      obtain ⟨c6_0, c6_1, c6_2, c6_3, c6_4, c6_5, c6_6, c6_f⟩ := hx_5.cells7
      obtain ⟨c8_0, c8_1, c8_2, c8_3, c8_4, c8_5, c8_6, c8_f⟩ := hy_1.cells7
      go_wp2_with fail
      clear c1_0 c1_1 c1_2 c1_f c2_0 c2_1 c2_2 c2_f c6_0 c6_1 c6_2 c6_3 c6_4 c6_5 c6_6 c6_f c8_0 c8_1 c8_2 c8_3 c8_4 c8_5 c8_6 c8_f
      refine (len_calls hM_8).mono ?_
      rintro r wl2 ⟨rfl, rfl⟩
      have hL : ((ents (delX X q)).length : Int) = N := by
        have h1 := delX_len HA.out q
        rw [EHAD.out] at h1
        have h2 := HN.out
        rw [List.length_map] at h2 ⊢
        simp at h1
        omega
      rw [hL]
      clear hL
      obtain ⟨c1_0, c1_1, c1_2, c1_f⟩ := hq_10.cells3
      obtain ⟨c2_0, c2_1, c2_2, c2_f⟩ := ho_10.cells3
      obtain ⟨c6_0, c6_1, c6_2, c6_3, c6_4, c6_5, c6_6, c6_f⟩ := hx_5.cells7
      obtain ⟨c8_0, c8_1, c8_2, c8_3, c8_4, c8_5, c8_6, c8_f⟩ := hy_1.cells7
      go_wp2_with fail
      clear c1_0 c1_1 c1_2 c1_f c2_0 c2_1 c2_2 c2_f c6_0 c6_1 c6_2 c6_3 c6_4 c6_5 c6_6 c6_f c8_0 c8_1 c8_2 c8_3 c8_4 c8_5 c8_6 c8_f
      with_reducible refine (same_kd s2 hK1_6 hl1 hK2_2 hl2).mono ?_
      rintro r wsm ⟨rfl, hf⟩
      have hF_11 := hF_10.trans hf
      have hq_11 := hq_10.fr hf (by simp)
      have ho_11 := ho_10.fr hf (by simp)
      have hM_9 := hM_8.fr hf (by simp) (by simp)
      have hR_9 := fun x hx => (hR_8 x hx).step hf (by simp)
      have hK1_7 := Kd.F_step hK1_6 fun k hk hlt => hf.block k hlt (by simp)
      have hx_6 := hx_5.fr hf (by simp)
      have hK2_3 := Kd.F_step hK2_2 fun k hk hlt => hf.block k hlt (by simp)
      have hy_2 := hy_1.fr hf (by simp)
      clear hF_10 hq_10 ho_10 hM_8 hR_8 hK1_6 hx_5 hK2_2 hy_1
      clear hf
      have HF := Hd.mk hF_11
      clear hF_11
      go_wp2
      go_ret
      exact ⟨rfl, HF.out⟩
    · have hN1 : 1 ≤ N := by
        have h1 := delX_len HA.out q
        rw [ehad] at h1
        have h2 := HN.out
        rw [List.length_map] at h2
        simp at h1
        omega
      have EHAD := Hd.mk ehad
      clear ehad
      obtain ⟨c1_0, c1_1, c1_2, c1_f⟩ := hq_3.cells3
      obtain ⟨c2_0, c2_1, c2_2, c2_f⟩ := ho_3.cells3
      go_wp2_with fail
      clear c1_0 c1_1 c1_2 c1_f c2_0 c2_1 c2_2 c2_f
      refine (lookx_calls hM_1 hR_1 o 0).mono ?_
      rintro r wl1 ⟨hf, A1, c1, rfl, hl1, hK1⟩
      obtain ⟨s1, es1⟩ : ∃ s, lookS (X) o 0 = s := ⟨_, rfl⟩
      obtain ⟨i1, ei1⟩ : ∃ i, (lookX (X) o 0).isSome = i := ⟨_, rfl⟩
      rw [es1] at hl1 hK1
      rw [es1, ei1]
      have ES1 := Hd.mk es1
      have EI1 := Hd.mk ei1
      clear es1 ei1
      have hF_4 := hF_3.trans hf
      have hq_4 := hq_3.fr hf (by simp)
      have ho_4 := ho_3.fr hf (by simp)
      have hM_2 := hM_1.fr hf (by simp) (by simp)
      have hR_2 := fun x hx => (hR_1 x hx).step hf (by simp)
      clear hF_3 hq_3 ho_3 hM_1 hR_1
      clear hf
      obtain ⟨c1_0, c1_1, c1_2, c1_f⟩ := hq_4.cells3
      obtain ⟨c2_0, c2_1, c2_2, c2_f⟩ := ho_4.cells3
      go_upto_region 6 with (fail)
      clear c1_0 c1_1 c1_2 c1_f c2_0 c2_1 c2_2 c2_f
      refine wp_name ?_
      intro w_1 hw_
      have hf_w_1 := alloc_of hw_
      have hx := blk_of (T := 35) (c := [.string s1.f0.f0, .int .u16 s1.f0.f1, .int .u16 s1.f0.f2, .slice A1 s1.f1.length c1, .int .i64 s1.f2, .int .i64 s1.f3, .int .u64 s1.f4]) hw_
      clear hw_
      have hF_5 := hF_4.trans hf_w_1
      have hq_5 := hq_4.fr hf_w_1 (by simp)
      have ho_5 := ho_4.fr hf_w_1 (by simp)
      have hM_3 := hM_2.fr hf_w_1 (by simp) (by simp)
      have hR_3 := fun x hx => (hR_2 x hx).step hf_w_1 (by simp)
      have hK1_1 := Kd.F_step hK1 fun k hk hlt => hf_w_1.block k hlt (by simp)
      clear hF_4 hq_4 ho_4 hM_2 hR_2 hK1
      clear hf_w_1
      have hxb := blk_ne_map hM_3 hx (by decide)
      obtain ⟨c1_0, c1_1, c1_2, c1_f⟩ := hq_5.cells3
      obtain ⟨c2_0, c2_1, c2_2, c2_f⟩ := ho_5.cells3
      obtain ⟨c6_0, c6_1, c6_2, c6_3, c6_4, c6_5, c6_6, c6_f⟩ := hx.cells7
      go_wp2_with fail
      clear c1_0 c1_1 c1_2 c1_f c2_0 c2_1 c2_2 c2_f c6_0 c6_1 c6_2 c6_3 c6_4 c6_5 c6_6 c6_f
      refine (drop_calls hM_3 q).mono ?_
      rintro r wd1 ⟨rfl, hMd, hf⟩
      rw [EHAD.out]
      rw [← delX_ents] at hMd
      have hF_6 := hF_5.weak hf (by simpa using hbw)
      have hq_6 := hq_5.fr hf hqb
      have ho_6 := ho_5.fr hf hob
      have hR_4 := fun x hx => (hR_3 x hx).frb hf
      have hK1_2 := Kd.F_step hK1_1 fun k hk hlt => hf.block k hlt (by simpa using hk.2)
      have hx_1 := hx.fr hf hxb
      clear hF_5 hq_5 ho_5 hM_3 hR_3 hK1_1 hx
      clear hf
      have hRd := fun x hx => hR_4 x (mem_delX (q := q) hx)
      obtain ⟨c1_0, c1_1, c1_2, c1_f⟩ := hq_6.cells3
      obtain ⟨c2_0, c2_1, c2_2, c2_f⟩ := ho_6.cells3
      obtain ⟨c6_0, c6_1, c6_2, c6_3, c6_4, c6_5, c6_6, c6_f⟩ := hx_1.cells7
      go_wp2_with fail
      clear c1_0 c1_1 c1_2 c1_f c2_0 c2_1 c2_2 c2_f c6_0 c6_1 c6_2 c6_3 c6_4 c6_5 c6_6 c6_f
      refine (drop_calls hMd q).mono ?_
      rintro r wd2 ⟨rfl, hMe, hf⟩
      rw [find_delX_same]
      rw [← delX_ents, delX_delX] at hMe
      have hF_7 := hF_6.weak hf (by simpa using hbw)
      have hq_7 := hq_6.fr hf hqb
      have ho_7 := ho_6.fr hf hob
      have hR_5 := fun x hx => (hRd x hx).frb hf
      have hK1_3 := Kd.F_step hK1_2 fun k hk hlt => hf.block k hlt (by simpa using hk.2)
      have hx_2 := hx_1.fr hf hxb
      clear hF_6 hq_6 ho_6 hMd hRd hK1_2 hx_1
      clear hf
      obtain ⟨c1_0, c1_1, c1_2, c1_f⟩ := hq_7.cells3
      obtain ⟨c2_0, c2_1, c2_2, c2_f⟩ := ho_7.cells3
      obtain ⟨c6_0, c6_1, c6_2, c6_3, c6_4, c6_5, c6_6, c6_f⟩ := hx_2.cells7
      go_wp2_with fail
      clear c1_0 c1_1 c1_2 c1_f c2_0 c2_1 c2_2 c2_f c6_0 c6_1 c6_2 c6_3 c6_4 c6_5 c6_6 c6_f
      refine (lookx_calls hMe hR_5 o 0).mono ?_
      rintro r wl2 ⟨hf, A2, c2, rfl, hl2, hK2⟩
      obtain ⟨s2, es2⟩ : ∃ s, lookS (delX X q) o 0 = s := ⟨_, rfl⟩
      obtain ⟨i2, ei2⟩ : ∃ i, (lookX (delX X q) o 0).isSome = i := ⟨_, rfl⟩
      rw [es2] at hl2 hK2
      rw [es2, ei2]
      have ES2 := Hd.mk es2
      have EI2 := Hd.mk ei2
      clear es2 ei2
      have hF_8 := hF_7.trans hf
      have hq_8 := hq_7.fr hf (by simp)
      have ho_8 := ho_7.fr hf (by simp)
      have hM_6 := hMe.fr hf (by simp) (by simp)
      have hR_6 := fun x hx => (hR_5 x hx).step hf (by simp)
      have hK1_4 := Kd.F_step hK1_3 fun k hk hlt => hf.block k hlt (by simp)
      have hx_3 := hx_2.fr hf (by simp)
      clear hF_7 hq_7 ho_7 hMe hR_5 hK1_3 hx_2
      clear hf
      simp only [Option.isSome_none]
      have hl := lookX_del hne (X := X) 0
      have he1 : s2 = s1 := by rw [← ES2.out, ← ES1.out]; exact lookS_of hl
      have he2 : i2 = i1 := by rw [← EI2.out, ← EI1.out, hl]
      subst he1 he2
      clear hl
      obtain ⟨c1_0, c1_1, c1_2, c1_f⟩ := hq_8.cells3
      obtain ⟨c2_0, c2_1, c2_2, c2_f⟩ := ho_8.cells3
      obtain ⟨c6_0, c6_1, c6_2, c6_3, c6_4, c6_5, c6_6, c6_f⟩ := hx_3.cells7
      go_upto_region 9 with (fail)
      clear c1_0 c1_1 c1_2 c1_f c2_0 c2_1 c2_2 c2_f c6_0 c6_1 c6_2 c6_3 c6_4 c6_5 c6_6 c6_f
      refine wp_name ?_
      intro w_2 hw_
      have hf_w_2 := alloc_of hw_
      have hy := blk_of (T := 35) (c := [.string s2.f0.f0, .int .u16 s2.f0.f1, .int .u16 s2.f0.f2, .slice A2 s2.f1.length c2, .int .i64 s2.f2, .int .i64 s2.f3, .int .u64 s2.f4]) hw_
      clear hw_
      have hF_9 := hF_8.trans hf_w_2
      have hq_9 := hq_8.fr hf_w_2 (by simp)
      have ho_9 := ho_8.fr hf_w_2 (by simp)
      have hM_7 := hM_6.fr hf_w_2 (by simp) (by simp)
      have hR_7 := fun x hx => (hR_6 x hx).step hf_w_2 (by simp)
      have hK1_5 := Kd.F_step hK1_4 fun k hk hlt => hf_w_2.block k hlt (by simp)
      have hx_4 := hx_3.fr hf_w_2 (by simp)
      have hK2_1 := Kd.F_step hK2 fun k hk hlt => hf_w_2.block k hlt (by simp)
      clear hF_8 hq_8 ho_8 hM_6 hR_6 hK1_4 hx_3 hK2
      clear hf_w_2
      obtain ⟨c1_0, c1_1, c1_2, c1_f⟩ := hq_9.cells3
      obtain ⟨c2_0, c2_1, c2_2, c2_f⟩ := ho_9.cells3
      obtain ⟨c6_0, c6_1, c6_2, c6_3, c6_4, c6_5, c6_6, c6_f⟩ := hx_4.cells7
      obtain ⟨c8_0, c8_1, c8_2, c8_3, c8_4, c8_5, c8_6, c8_f⟩ := hy.cells7
      go_wp2_with fail
      clear c1_0 c1_1 c1_2 c1_f c2_0 c2_1 c2_2 c2_f c6_0 c6_1 c6_2 c6_3 c6_4 c6_5 c6_6 c6_f c8_0 c8_1 c8_2 c8_3 c8_4 c8_5 c8_6 c8_f
      refine (has_calls hM_7 q).mono ?_
      rintro r wh2 ⟨rfl, hf⟩
      have hF_10 := hF_9.trans hf
      have hq_10 := hq_9.fr hf (by simp)
      have ho_10 := ho_9.fr hf (by simp)
      have hM_8 := hM_7.fr hf (by simp) (by simp)
      have hR_8 := fun x hx => (hR_7 x hx).step hf (by simp)
      have hK1_6 := Kd.F_step hK1_5 fun k hk hlt => hf.block k hlt (by simp)
      have hx_5 := hx_4.fr hf (by simp)
      have hK2_2 := Kd.F_step hK2_1 fun k hk hlt => hf.block k hlt (by simp)
      have hy_1 := hy.fr hf (by simp)
      clear hF_9 hq_9 ho_9 hM_7 hR_7 hK1_5 hx_4 hK2_1 hy
      clear hf
      rw [find_delX_same]
      simp only [Option.isSome_none]
      obtain ⟨c1_0, c1_1, c1_2, c1_f⟩ := hq_10.cells3
      obtain ⟨c2_0, c2_1, c2_2, c2_f⟩ := ho_10.cells3
      obtain ⟨c6_0, c6_1, c6_2, c6_3, c6_4, c6_5, c6_6, c6_f⟩ := hx_5.cells7
      obtain ⟨c8_0, c8_1, c8_2, c8_3, c8_4, c8_5, c8_6, c8_f⟩ := hy_1.cells7
      go_wp2_with fail
      clear c1_0 c1_1 c1_2 c1_f c2_0 c2_1 c2_2 c2_f c6_0 c6_1 c6_2 c6_3 c6_4 c6_5 c6_6 c6_f c8_0 c8_1 c8_2 c8_3 c8_4 c8_5 c8_6 c8_f
      refine (len_calls hM_8).mono ?_
      rintro r wl2 ⟨rfl, rfl⟩
      have hL : ((ents (delX X q)).length : Int) = N - 1 := by
        have h1 := delX_len HA.out q
        rw [EHAD.out] at h1
        have h2 := HN.out
        rw [List.length_map] at h2 ⊢
        simp at h1
        omega
      rw [hL]
      clear hL
      obtain ⟨c1_0, c1_1, c1_2, c1_f⟩ := hq_10.cells3
      obtain ⟨c2_0, c2_1, c2_2, c2_f⟩ := ho_10.cells3
      obtain ⟨c6_0, c6_1, c6_2, c6_3, c6_4, c6_5, c6_6, c6_f⟩ := hx_5.cells7
      obtain ⟨c8_0, c8_1, c8_2, c8_3, c8_4, c8_5, c8_6, c8_f⟩ := hy_1.cells7
      go_wp2_with fail
      clear c1_0 c1_1 c1_2 c1_f c2_0 c2_1 c2_2 c2_f c6_0 c6_1 c6_2 c6_3 c6_4 c6_5 c6_6 c6_f c8_0 c8_1 c8_2 c8_3 c8_4 c8_5 c8_6 c8_f
      with_reducible refine (same_kd s2 hK1_6 hl1 hK2_2 hl2).mono ?_
      rintro r wsm ⟨rfl, hf⟩
      have hF_11 := hF_10.trans hf
      have hq_11 := hq_10.fr hf (by simp)
      have ho_11 := ho_10.fr hf (by simp)
      have hM_9 := hM_8.fr hf (by simp) (by simp)
      have hR_9 := fun x hx => (hR_8 x hx).step hf (by simp)
      have hK1_7 := Kd.F_step hK1_6 fun k hk hlt => hf.block k hlt (by simp)
      have hx_6 := hx_5.fr hf (by simp)
      have hK2_3 := Kd.F_step hK2_2 fun k hk hlt => hf.block k hlt (by simp)
      have hy_2 := hy_1.fr hf (by simp)
      clear hF_10 hq_10 ho_10 hM_8 hR_8 hK1_6 hx_5 hK2_2 hy_1
      clear hf
      have HF := Hd.mk hF_11
      clear hF_11
      go_wp2
      go_ret
      exact ⟨rfl, HF.out⟩
end Go.Proofs.Ytnikhiegnledlaa
