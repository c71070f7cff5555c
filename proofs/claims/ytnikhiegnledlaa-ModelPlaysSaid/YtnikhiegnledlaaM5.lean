import Derived.Test.YtnikhiegnledlaaOrd
import Derived.Test.YtnikhiegnledlaaPPa
namespace Go.Proofs.Ytnikhiegnledlaa
open Go Go.RowKit Go.Proofs.MapL PPM Go.Proofs.YtnikhiegnledlaaW.PrintWords

/-- New blocks and draws, and nothing else. -/
def Gw (w w' : World) : Prop := ∃ q os, w' = Go.Sort.grow (w.drewN q) os
theorem Gw.refl (w : World) : Gw w w := ⟨0, #[], by rw [Go.Sort.grow_empty]; rfl⟩
theorem Gw.trans {a b c : World} (h : Gw a b) (k : Gw b c) : Gw a c := by
  obtain ⟨q, os, rfl⟩ := h
  obtain ⟨q', os', rfl⟩ := k
  refine ⟨q + q', os ++ os', ?_⟩
  rw [← Go.Sort.grow_grow, ← World.drewN_drewN]
  rfl
theorem Gw.alloc {w : World} (o : Obj) : Gw w (w.alloc o) := ⟨0, #[o], by rw [Go.Sort.alloc_eq_grow]; rfl⟩
theorem Gw.drew {w : World} : Gw w w.drew := ⟨1, #[], by rw [Go.Sort.grow_empty]; rfl⟩
theorem Gw.fr {w w' : World} (h : Gw w w') : Fr [] w w' := by
  obtain ⟨q, os, rfl⟩ := h
  refine ⟨rfl, rfl, rfl, ?_, ?_⟩
  · show w.heap.size ≤ (w.heap ++ os).size
    simp
  · intro k hk _
    show (w.heap ++ os)[k]? = _
    rw [Array.getElem?_append_left hk]
theorem gw_drawn {w w' : World} (h : Go.Proofs.YtnikhiegnledlaaW.PrintWords.Drawn0 w w') : Gw w w' := by
  obtain ⟨⟨n, rfl⟩⟩ := h
  exact ⟨n, #[], by simp⟩
theorem nanS (a : ByteArray) (w : World) : Calls Try.prog 48 #[.string a] w fun e w' => e = .returned (.bool false) ∧ Gw w w' :=
  (cmp_isNaN_string.calls a false w (by simp [cmp_isNaN_string.f])).mono fun _ _ ⟨h1, h2⟩ => ⟨h1, gw_drawn h2⟩
theorem nanI (a : Int) (w : World) : Calls Try.prog 49 #[.int .u16 a] w fun e w' => e = .returned (.bool false) ∧ Gw w w' :=
  (cmp_isNaN_uint16.calls a false w (by simp [cmp_isNaN_uint16.f])).mono fun _ _ ⟨h1, h2⟩ => ⟨h1, gw_drawn h2⟩
set_option maxHeartbeats 1000000 in
theorem cmpS_calls (a b : ByteArray) (w : World) : Calls Try.prog 36 #[.string a, .string b] w fun e w' => e = .returned (.int .i64 (cmpS a b)) ∧ Gw w w' := by
  obtain ⟨C, hC⟩ : ∃ C, cmpS a b = C := ⟨_, rfl⟩
  rw [hC]
  unfold cmpS at hC
  by_cases h1 : Op.bytesLess a.toList b.toList = true
  · rw [if_pos h1] at hC
    subst hC
    go_enter Try.func36, Try.ntmps36
    go_wp2_with fail
    refine (nanS a _).mono ?_
    rintro e w1 ⟨rfl, hg1⟩
    go_wp2_with fail
    refine (nanS b _).mono ?_
    rintro e w2 ⟨rfl, hg2⟩
    have hg := hg1.trans hg2
    clear hg1 hg2
    have HG := Hd.mk hg
    clear hg
    go_wp2
    go_ret
    exact ⟨rfl, HG.out⟩
  · rw [if_neg h1] at hC
    have h1' : Op.bytesLess a.toList b.toList = false := by simpa using h1
    by_cases h2 : Op.bytesLess b.toList a.toList = true
    · rw [if_pos h2] at hC
      subst hC
      have h3 : (a.toList == b.toList) = false := by
        rw [beq_eq_false_iff_ne]
        intro h
        rw [h, bl_irrefl] at h2; cases h2
      have h3' : ¬ a.toList = b.toList := by simpa using h3
      go_enter Try.func36, Try.ntmps36
      go_wp2_with fail
      refine (nanS a _).mono ?_
      rintro e w1 ⟨rfl, hg1⟩
      go_wp2_with fail
      refine (nanS b _).mono ?_
      rintro e w2 ⟨rfl, hg2⟩
      have HG := Hd.mk (hg1.trans hg2)
      clear hg1 hg2
      go_wp2
      go_ret
      exact ⟨rfl, HG.out⟩
    · rw [if_neg h2] at hC
      subst hC
      have h4 : a.toList = b.toList := bl_total h1' (by simpa using h2)
      have h3 : (a.toList == b.toList) = true := by simpa using h4
      have H4 := Hd.mk h4
      clear h4 h2
      go_enter Try.func36, Try.ntmps36
      go_wp2_with fail
      refine (nanS a _).mono ?_
      rintro e w1 ⟨rfl, hg1⟩
      go_wp2_with fail
      refine (nanS b _).mono ?_
      rintro e w2 ⟨rfl, hg2⟩
      have HG := Hd.mk (hg1.trans hg2)
      clear hg1 hg2
      go_wp2
      go_ret
      exact ⟨rfl, HG.out⟩
set_option maxHeartbeats 1000000 in
theorem cmpI_calls (a b : Int) (w : World) : Calls Try.prog 37 #[.int .u16 a, .int .u16 b] w fun e w' => e = .returned (.int .i64 (cmpI a b)) ∧ Gw w w' := by
  obtain ⟨C, hC⟩ : ∃ C, cmpI a b = C := ⟨_, rfl⟩
  rw [hC]
  unfold cmpI at hC
  by_cases h1 : a < b
  · rw [if_pos h1] at hC
    subst hC
    have h1' : decide (a < b) = true := decide_eq_true h1
    clear h1
    go_enter Try.func37, Try.ntmps37
    go_wp2_with fail
    refine (nanI a _).mono ?_
    rintro e w1 ⟨rfl, hg1⟩
    go_wp2_with fail
    refine (nanI b _).mono ?_
    rintro e w2 ⟨rfl, hg2⟩
    have HG := Hd.mk (hg1.trans hg2)
    clear hg1 hg2
    go_wp2
    go_ret
    exact ⟨rfl, HG.out⟩
  · rw [if_neg h1] at hC
    have h1' : decide (a < b) = false := decide_eq_false h1
    by_cases h2 : a > b
    · rw [if_pos h2] at hC
      subst hC
      have h2' : decide (a > b) = true := decide_eq_true h2
      clear h1 h2
      go_enter Try.func37, Try.ntmps37
      go_wp2_with fail
      refine (nanI a _).mono ?_
      rintro e w1 ⟨rfl, hg1⟩
      go_wp2_with fail
      refine (nanI b _).mono ?_
      rintro e w2 ⟨rfl, hg2⟩
      have HG := Hd.mk (hg1.trans hg2)
      clear hg1 hg2
      go_wp2
      go_ret
      exact ⟨rfl, HG.out⟩
    · rw [if_neg h2] at hC
      subst hC
      have h2' : decide (a > b) = false := decide_eq_false h2
      clear h1 h2
      go_enter Try.func37, Try.ntmps37
      go_wp2_with fail
      refine (nanI a _).mono ?_
      rintro e w1 ⟨rfl, hg1⟩
      go_wp2_with fail
      refine (nanI b _).mono ?_
      rintro e w2 ⟨rfl, hg2⟩
      have HG := Hd.mk (hg1.trans hg2)
      clear hg1 hg2
      go_wp2
      go_ret
      exact ⟨rfl, HG.out⟩
theorem orI_f (x y z : Int) : cmp_Or_int.f 4 [x, y, z] = some (orI x y z) := by
  unfold orI cmp_Or_int.f
  by_cases hx : x = 0
  · by_cases hy : y = 0
    · by_cases hz : z = 0 <;> simp [cmp_Or_int.l0, Go.Proofs.YtnikhiegnledlaaW.PrintWords.rd, hx, hy, hz, wrap64]
    · simp [cmp_Or_int.l0, Go.Proofs.YtnikhiegnledlaaW.PrintWords.rd, hx, hy, wrap64]
  · simp [cmp_Or_int.l0, Go.Proofs.YtnikhiegnledlaaW.PrintWords.rd, hx, wrap64]
theorem orI_calls {w : World} {g T : Nat} (x y z : Int) (h : Blk w g T [.int .i64 x, .int .i64 y, .int .i64 z]) : Calls Try.prog 35 #[.slice (some ⟨g, 0, none⟩) 3 3] w fun e w' => e = .returned (.int .i64 (orI x y z)) ∧ Gw w w' := by
  have hc := cmp_Or_int.calls 4 (some ⟨g, 0, none⟩) 3 [x, y, z] (orI x y z) w ?_ (by simp) (orI_f x y z)
  · exact hc.mono fun _ _ ⟨h1, h2⟩ => ⟨h1, gw_drawn h2⟩
  · refine ⟨rfl, by simp, fun _ => ⟨_, rfl, ?_⟩⟩
    intro j p hj
    refine ⟨[.int .i64 p], rfl, rfl, ?_⟩
    intro i u hu
    have hi : i = 0 := by
      cases i with
      | zero => rfl
      | succ i => simp at hu
    subst hi
    have hu' : u = .int .i64 p := by simpa using hu.symm
    subst hu'
    have e : (⟨g, 0, none⟩ : Addr).add (j * (Kd.int .i64).sz + 0) = ⟨g, j, none⟩ := by
      show (⟨g, 0, none⟩ : Addr).add (j * 1 + 0) = _
      unfold Addr.add; split <;> simp_all
    rw [e]
    match j, hj with
    | 0, hj => simp at hj; subst hj; exact h.cell rfl
    | 1, hj => simp at hj; subst hj; exact h.cell rfl
    | 2, hj => simp at hj; subst hj; exact h.cell rfl
set_option maxRecDepth 100000 in
set_option maxHeartbeats 2000000 in
theorem compare_calls (a b : Qn) (w : World) : Calls Try.prog 31 #[a.v, b.v] w fun e w' => e = .returned (.int .i64 (cfQ a b)) ∧ Gw w w' := by
  unfold Qn.v
  go_enter Try.func31, Try.ntmps31
  go_wp2_with fail
  refine wp_name ?_
  intro w1 hw1
  have hF : Gw w w1 := by rw [hw1]; exact (Gw.alloc _).trans (Gw.alloc _)
  have hba : Blk w1.drew w.heap.size 25 [.string a.name, .int .u16 a.ty, .int .u16 a.cl] := by rw [hw1]; exact (Blk.new _ _ _).alloc _
  have hbb : Blk w1.drew (w.heap.size + 1) 25 [.string b.name, .int .u16 b.ty, .int .u16 b.cl] := by
    rw [hw1]
    have h0 := Blk.new (w.alloc (.cells #[.string a.name, .int .u16 a.ty, .int .u16 a.cl] 25)) 25 [.string b.name, .int .u16 b.ty, .int .u16 b.cl]
    simp only [World.size_alloc] at h0
    exact h0
  clear hw1
  refine wp_region_gs { R := Gw, R1 := Gw, gs := [Is (.pointer (some ⟨w.heap.size, 0, none⟩)), Is (.string a.name), Is (.pointer (some ⟨w.heap.size + 1, 0, none⟩)), Is (.string b.name), Is (.int .i64 (cmpS a.name b.name)), Is (.pointer (some ⟨w.heap.size, 1, none⟩)), Is (.int .u16 a.ty), Is (.pointer (some ⟨w.heap.size + 1, 1, none⟩)), Is (.int .u16 b.ty), Is (.int .i64 (cmpI a.ty b.ty)), Is (.pointer (some ⟨w.heap.size, 2, none⟩)), Is (.int .u16 a.cl), Is (.pointer (some ⟨w.heap.size + 1, 2, none⟩)), Is (.int .u16 b.cl), Is (.int .i64 (cmpI a.cl b.cl)), (fun (v : Value) (w2 : World) => ∃ h, v = .slice (some ⟨h, 0, none⟩) 3 3 ∧ ∃ T, Blk w2 h T [.int .i64 (cmpS a.name b.name), .int .i64 (cmpI a.ty b.ty), .int .i64 (cmpI a.cl b.cl)]), Is (.int .i64 (cfQ a b)), Is (.int .i64 (cfQ a b))], ds := [some 5, some 6, some 7, some 8, some 9, some 10, some 11, some 12, some 13, some 14, some 15, some 16, some 17, some 18, some 19, some 20, some 21, some 4], fl := [false, false, false, false, false, false, false, false, false, false, false, false, false, false, false, false, false, false], hs := [], hd := [] } [false, false, false, false, true, true, true, true, true, true, true, true, true, true, true, true, true, true, true, true, true, true] (by kernel_rfl) _ (by kernel_rfl) (by kernel_rfl) (by kernel_rfl) (by kernel_rfl) rfl [] (fun _ _ _ h1 h2 => h1.trans h2) (fun _ _ h => h) (staI (staI (staI (staI (staI (staI (staI (staI (staI (staI (staI (staI (staI (staI (staI (sta (fun _ _ _ hf ⟨h, h1, T, h2⟩ => ⟨h, h1, T, h2.fr (Gw.fr hf) (by simp)⟩) (staI (staI sta0)))))))))))))))))) sth0 (fun _ _ h => h.fr.size) _ (Gw.refl _) trivial ?_ ?_
  · refine ⟨?_, ?_, ?_, ?_, ?_, ?_, ?_, ?_, ?_, ?_, ?_, ?_, ?_, ?_, ?_, ?_, ?_, ?_, trivial⟩
    · intro σ w' hR hd
      simp only [fill, Nat.reduceAdd, if_true, Bool.false_eq_true, if_false]
      clear hd
      go_wp2
      exact ⟨Gw.refl _, rfl⟩
    · intro σ w' hR hd
      simp only [fill, Nat.reduceAdd, if_true, Bool.false_eq_true, if_false]
      obtain h5 : σ 5 = _ := hd 0 (by decide)
      rw [h5]
      clear h5
      clear hd
      obtain ⟨d0, d1, d2, df⟩ := (hba.fr hR.fr (by simp)).cells3
      go_wp2
      exact ⟨Gw.refl _, rfl⟩
    · intro σ w' hR hd
      simp only [fill, Nat.reduceAdd, if_true, Bool.false_eq_true, if_false]
      clear hd
      go_wp2
      exact ⟨Gw.refl _, rfl⟩
    · intro σ w' hR hd
      simp only [fill, Nat.reduceAdd, if_true, Bool.false_eq_true, if_false]
      obtain h7 : σ 7 = _ := hd 2 (by decide)
      rw [h7]
      clear h7
      clear hd
      obtain ⟨d0, d1, d2, df⟩ := (hbb.fr hR.fr (by simp)).cells3
      go_wp2
      exact ⟨Gw.refl _, rfl⟩
    · intro σ w' hR hd
      simp only [fill, Nat.reduceAdd, if_true, Bool.false_eq_true, if_false]
      obtain h6 : σ 6 = _ := hd 1 (by decide)
      obtain h8 : σ 8 = _ := hd 3 (by decide)
      rw [h6, h8]
      clear h6 h8
      clear hd
      go_wp2_with fail
      refine (cmpS_calls a.name b.name _).mono ?_
      rintro e w4 ⟨rfl, hg0⟩
      have hgw := Hd.mk hg0
      clear hg0
      go_wp2
      exact ⟨hgw.out, rfl⟩
    · intro σ w' hR hd
      simp only [fill, Nat.reduceAdd, if_true, Bool.false_eq_true, if_false]
      clear hd
      go_wp2
      exact ⟨Gw.refl _, rfl⟩
    · intro σ w' hR hd
      simp only [fill, Nat.reduceAdd, if_true, Bool.false_eq_true, if_false]
      obtain h10 : σ 10 = _ := hd 5 (by decide)
      rw [h10]
      clear h10
      clear hd
      obtain ⟨d0, d1, d2, df⟩ := (hba.fr hR.fr (by simp)).cells3
      go_wp2
      exact ⟨Gw.refl _, rfl⟩
    · intro σ w' hR hd
      simp only [fill, Nat.reduceAdd, if_true, Bool.false_eq_true, if_false]
      clear hd
      go_wp2
      exact ⟨Gw.refl _, rfl⟩
    · intro σ w' hR hd
      simp only [fill, Nat.reduceAdd, if_true, Bool.false_eq_true, if_false]
      obtain h12 : σ 12 = _ := hd 7 (by decide)
      rw [h12]
      clear h12
      clear hd
      obtain ⟨d0, d1, d2, df⟩ := (hbb.fr hR.fr (by simp)).cells3
      go_wp2
      exact ⟨Gw.refl _, rfl⟩
    · intro σ w' hR hd
      simp only [fill, Nat.reduceAdd, if_true, Bool.false_eq_true, if_false]
      obtain h11 : σ 11 = _ := hd 6 (by decide)
      obtain h13 : σ 13 = _ := hd 8 (by decide)
      rw [h11, h13]
      clear h11 h13
      clear hd
      go_wp2_with fail
      refine (cmpI_calls a.ty b.ty _).mono ?_
      rintro e w4 ⟨rfl, hg0⟩
      have hgw := Hd.mk hg0
      clear hg0
      go_wp2
      exact ⟨hgw.out, rfl⟩
    · intro σ w' hR hd
      simp only [fill, Nat.reduceAdd, if_true, Bool.false_eq_true, if_false]
      clear hd
      go_wp2
      exact ⟨Gw.refl _, rfl⟩
    · intro σ w' hR hd
      simp only [fill, Nat.reduceAdd, if_true, Bool.false_eq_true, if_false]
      obtain h15 : σ 15 = _ := hd 10 (by decide)
      rw [h15]
      clear h15
      clear hd
      obtain ⟨d0, d1, d2, df⟩ := (hba.fr hR.fr (by simp)).cells3
      go_wp2
      exact ⟨Gw.refl _, rfl⟩
    · intro σ w' hR hd
      simp only [fill, Nat.reduceAdd, if_true, Bool.false_eq_true, if_false]
      clear hd
      go_wp2
      exact ⟨Gw.refl _, rfl⟩
    · intro σ w' hR hd
      simp only [fill, Nat.reduceAdd, if_true, Bool.false_eq_true, if_false]
      obtain h17 : σ 17 = _ := hd 12 (by decide)
      rw [h17]
      clear h17
      clear hd
      obtain ⟨d0, d1, d2, df⟩ := (hbb.fr hR.fr (by simp)).cells3
      go_wp2
      exact ⟨Gw.refl _, rfl⟩
    · intro σ w' hR hd
      simp only [fill, Nat.reduceAdd, if_true, Bool.false_eq_true, if_false]
      obtain h16 : σ 16 = _ := hd 11 (by decide)
      obtain h18 : σ 18 = _ := hd 13 (by decide)
      rw [h16, h18]
      clear h16 h18
      clear hd
      go_wp2_with fail
      refine (cmpI_calls a.cl b.cl _).mono ?_
      rintro e w4 ⟨rfl, hg0⟩
      have hgw := Hd.mk hg0
      clear hg0
      go_wp2
      exact ⟨hgw.out, rfl⟩
    · intro σ w' hR hd
      simp only [fill, Nat.reduceAdd, if_true, Bool.false_eq_true, if_false]
      obtain h9 : σ 9 = _ := hd 4 (by decide)
      obtain h14 : σ 14 = _ := hd 9 (by decide)
      obtain h19 : σ 19 = _ := hd 14 (by decide)
      rw [h9, h14, h19]
      clear h9 h14 h19
      clear hd
      go_wp2
      exact ⟨Gw.alloc _, ⟨_, rfl, _, Blk.new _ _ _⟩⟩
    · intro σ w' hR hd
      simp only [fill, Nat.reduceAdd, if_true, Bool.false_eq_true, if_false]
      obtain ⟨g, h20, T, hgb⟩ : (fun (v : Value) (w2 : World) => ∃ h, v = .slice (some ⟨h, 0, none⟩) 3 3 ∧ ∃ T, Blk w2 h T [.int .i64 (cmpS a.name b.name), .int .i64 (cmpI a.ty b.ty), .int .i64 (cmpI a.cl b.cl)]) (σ 20) w' := hd 15 (by decide)
      rw [h20]
      clear h20
      clear hd
      go_wp2_with fail
      refine (orI_calls _ _ _ hgb).mono ?_
      rintro e w4 ⟨rfl, hg0⟩
      have hgw := Hd.mk hg0
      clear hg0
      go_wp2
      exact ⟨hgw.out, rfl⟩
    · intro σ w' hR hd
      simp only [fill, Nat.reduceAdd, if_true, Bool.false_eq_true, if_false]
      obtain h21 : σ 21 = _ := hd 16 (by decide)
      rw [h21]
      clear h21
      clear hd
      go_wp2
      exact ⟨Gw.refl _, rfl⟩
  · intro σ w3 hR hG hH
    obtain h4 : σ 4 = _ := hG 17 (by decide)
    simp only [fill, Nat.reduceAdd, if_true, Bool.false_eq_true, if_false, h4]
    clear h4
    clear hG
    have hF3 := Hd.mk (hF.trans (Gw.drew.trans hR))
    go_wp2
    go_ret
    exact ⟨rfl, hF3.out⟩
end Go.Proofs.Ytnikhiegnledlaa
