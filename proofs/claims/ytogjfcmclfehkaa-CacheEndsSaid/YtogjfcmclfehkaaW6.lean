import Derived.Test.YtogjfcmclfehkaaW5
import Derived.Test.YtogjfcmclfehkaaGw
namespace Go.Proofs.Ytogjfcmclfehkaa
open Go Go.RowKit Go.Proofs.MapL

def cmpI (a b : Int) : Int := if a < b then -1 else if a > b then 1 else 0
def or2 (x y : Int) : Int := if x = 0 then y else x
/-- Ahead: by the time, then by the id. -/
def ltT (a b : Int × Int) : Bool := decide (a.2 < b.2) || (decide (a.2 = b.2) && decide (a.1 < b.1))
def cfT (a b : Int × Int) : Int := or2 (cmpI a.2 b.2) (cmpI a.1 b.1)
theorem ltT_iff (a b : Int × Int) : ltT a b = true ↔ (a.2 < b.2 ∨ (a.2 = b.2 ∧ a.1 < b.1)) := by unfold ltT; simp
theorem ltOf_cfT (a b : Int × Int) : Go.Proofs.ltOf cfT a b = ltT a b := by
  unfold Go.Proofs.ltOf
  rw [Bool.eq_iff_iff, ltT_iff, decide_eq_true_eq]
  unfold cfT or2 cmpI
  by_cases h1 : a.2 < b.2
  · simp [h1]
  · by_cases h2 : a.2 > b.2
    · simp [h1, h2]; omega
    · by_cases h3 : a.1 < b.1
      · simp [h1, h2, h3]; omega
      · by_cases h4 : a.1 > b.1
        · simp [h1, h2, h3, h4]
        · simp [h1, h2, h3, h4]
theorem ltT_total {a b : Int × Int} (h1 : ltT a b = false) (h2 : ltT b a = false) : a = b := by
  have h1 : ¬ (a.2 < b.2 ∨ (a.2 = b.2 ∧ a.1 < b.1)) := fun h => by rw [(ltT_iff a b).2 h] at h1; cases h1
  have h2 : ¬ (b.2 < a.2 ∨ (b.2 = a.2 ∧ b.1 < a.1)) := fun h => by rw [(ltT_iff b a).2 h] at h2; cases h2
  exact Prod.ext (by omega) (by omega)
theorem ltT_trans {a b c : Int × Int} (h1 : ltT a b = true) (h2 : ltT b c = true) : ltT a c = true := by rw [ltT_iff] at *; omega
theorem ltT_ntrans {a b c : Int × Int} (h1 : ltT a b = false) (h2 : ltT b c = false) : ltT a c = false := by
  rw [Bool.eq_false_iff, Ne, ltT_iff] at *; omega
theorem ltT_irrefl (a : Int × Int) : ltT a a = false := by rw [Bool.eq_false_iff, Ne, ltT_iff]; omega
theorem ltT_asymm {a b : Int × Int} (h : ltT a b = true) : ltT b a = false := by
  rw [Bool.eq_false_iff, Ne, ltT_iff]; rw [ltT_iff] at h; omega
theorem sort_perm {l l' : List (Int × Int)} (h : l.Perm l') : (l.mergeSort fun x y => !ltT y x) = l'.mergeSort fun x y => !ltT y x := by
  have tr : ∀ a b c : Int × Int, (!ltT b a) = true → (!ltT c b) = true → (!ltT c a) = true := fun a b c h1 h2 => by
    simp only [Bool.not_eq_true'] at *; exact ltT_ntrans h2 h1
  have tot : ∀ a b : Int × Int, ((!ltT b a) || (!ltT a b)) = true := fun a b => by
    cases h1 : ltT b a
    · rfl
    · rw [ltT_asymm h1]; rfl
  refine List.Perm.eq_of_pairwise (le := fun a b => (!ltT b a) = true) (fun a b _ _ h1 h2 => ?_) (List.pairwise_mergeSort tr tot l) (List.pairwise_mergeSort tr tot l') (((List.mergeSort_perm l _).trans h).trans (List.mergeSort_perm l' _).symm)
  simp only [Bool.not_eq_true'] at h1 h2
  exact ltT_total h2 h1
theorem swo_cfT : Go.Sort.SWO (Go.Proofs.ltOf cfT) where
  irrefl x := by rw [ltOf_cfT]; exact ltT_irrefl x
  trans x y z h1 h2 := by rw [ltOf_cfT] at *; exact ltT_trans h1 h2
  ntrans x y z h1 h2 := by rw [ltOf_cfT] at *; exact ltT_ntrans h1 h2
theorem nan_u64 (a : Int) (w : World) : Calls Try.prog 76 #[.int .u64 a] w fun e w' => e = .returned (.bool false) ∧ w' = w := by
  go_enter Try.func76, Try.ntmps76
  go_wp2
  go_ret
  exact ⟨rfl, rfl⟩
theorem nan_i64 (a : Int) (w : World) : Calls Try.prog 77 #[.int .i64 a] w fun e w' => e = .returned (.bool false) ∧ w' = w := by
  go_enter Try.func77, Try.ntmps77
  go_wp2
  go_ret
  exact ⟨rfl, rfl⟩
theorem cmpU_calls (a b : Int) (w : World) : Calls Try.prog 72 #[.int .u64 a, .int .u64 b] w fun e w' => e = .returned (.int .i64 (cmpI a b)) ∧ Gw w w' := by
  have HG := Hd.mk (Gw.refl w)
  unfold cmpI
  by_cases h1 : a < b
  · rw [if_pos h1]
    go_enter Try.func72, Try.ntmps72
    go_wp2_with fail
    refine (nan_u64 a _).mono ?_
    rintro e w1 ⟨rfl, rfl⟩
    go_wp2_with fail
    refine (nan_u64 b _).mono ?_
    rintro e w2 ⟨rfl, rfl⟩
    go_wp2
    go_ret
    exact ⟨rfl, HG.out⟩
  · rw [if_neg h1]
    by_cases h2 : a > b
    · rw [if_pos h2]
      go_enter Try.func72, Try.ntmps72
      go_wp2_with fail
      refine (nan_u64 a _).mono ?_
      rintro e w1 ⟨rfl, rfl⟩
      go_wp2_with fail
      refine (nan_u64 b _).mono ?_
      rintro e w2 ⟨rfl, rfl⟩
      go_wp2
      go_ret
      exact ⟨rfl, HG.out⟩
    · rw [if_neg h2]
      go_enter Try.func72, Try.ntmps72
      go_wp2_with fail
      refine (nan_u64 a _).mono ?_
      rintro e w1 ⟨rfl, rfl⟩
      go_wp2_with fail
      refine (nan_u64 b _).mono ?_
      rintro e w2 ⟨rfl, rfl⟩
      go_wp2
      go_ret
      exact ⟨rfl, HG.out⟩
theorem cmpI_calls (a b : Int) (w : World) : Calls Try.prog 73 #[.int .i64 a, .int .i64 b] w fun e w' => e = .returned (.int .i64 (cmpI a b)) ∧ Gw w w' := by
  have HG := Hd.mk (Gw.refl w)
  unfold cmpI
  by_cases h1 : a < b
  · rw [if_pos h1]
    go_enter Try.func73, Try.ntmps73
    go_wp2_with fail
    refine (nan_i64 a _).mono ?_
    rintro e w1 ⟨rfl, rfl⟩
    go_wp2_with fail
    refine (nan_i64 b _).mono ?_
    rintro e w2 ⟨rfl, rfl⟩
    go_wp2
    go_ret
    exact ⟨rfl, HG.out⟩
  · rw [if_neg h1]
    by_cases h2 : a > b
    · rw [if_pos h2]
      go_enter Try.func73, Try.ntmps73
      go_wp2_with fail
      refine (nan_i64 a _).mono ?_
      rintro e w1 ⟨rfl, rfl⟩
      go_wp2_with fail
      refine (nan_i64 b _).mono ?_
      rintro e w2 ⟨rfl, rfl⟩
      go_wp2
      go_ret
      exact ⟨rfl, HG.out⟩
    · rw [if_neg h2]
      go_enter Try.func73, Try.ntmps73
      go_wp2_with fail
      refine (nan_i64 a _).mono ?_
      rintro e w1 ⟨rfl, rfl⟩
      go_wp2_with fail
      refine (nan_i64 b _).mono ?_
      rintro e w2 ⟨rfl, rfl⟩
      go_wp2
      go_ret
      exact ⟨rfl, HG.out⟩

theorem or_calls {w : World} {g T : Nat} (x y : Int) (h : Blk w g T [.int .i64 x, .int .i64 y]) : Calls Try.prog 71 #[.slice (some ⟨g, 0, none⟩) 2 2] w fun e w' => e = .returned (.int .i64 (or2 x y)) ∧ w' = w := by
  obtain ⟨c0, c1, cf⟩ := h.cells2
  unfold or2
  by_cases hx : x = 0
  · subst hx
    rw [if_pos rfl]
    by_cases hy : y = 0
    · subst hy
      go_enter Try.func71, Try.ntmps71
      go_wp2_with fail
      refine wp_loop_rounds 3 ?_; rw [rounds_succ]
      go_wp2
      rw [rounds_succ]
      go_wp2
      rw [rounds_succ]
      go_wp2
      go_ret
      exact ⟨rfl, rfl⟩
    · have hy' : (y == 0) = false := by simpa using hy
      go_enter Try.func71, Try.ntmps71
      go_wp2_with fail
      refine wp_loop_rounds 2 ?_; rw [rounds_succ]
      go_wp2
      rw [rounds_succ]
      go_wp2
      go_ret
      exact ⟨rfl, rfl⟩
  · rw [if_neg hx]
    have hx' : (x == 0) = false := by simpa using hx
    go_enter Try.func71, Try.ntmps71
    go_wp2_with fail
    refine wp_loop_rounds 1 ?_; rw [rounds_succ]
    go_wp2
    go_ret
    exact ⟨rfl, rfl⟩
set_option maxRecDepth 100000 in
set_option maxHeartbeats 2000000 in
theorem compare_calls (a b : Int × Int) (w : World) : Calls Try.prog 70 #[.agg #[.int .i64 a.1, .int .u64 a.2], .agg #[.int .i64 b.1, .int .u64 b.2]] w fun e w' => e = .returned (.int .i64 (cfT a b)) ∧ Gw w w' := by
  go_enter Try.func70, Try.ntmps70
  go_wp2_with fail
  refine wp_name ?_
  intro w1 hw1
  have hF : Gw w w1 := by rw [hw1]; exact (Gw.alloc _).trans (Gw.alloc _)
  have hba : Blk w1.drew w.heap.size 129 [.int .i64 a.1, .int .u64 a.2] := by rw [hw1]; exact (Blk.new _ _ _).alloc _
  have hbb : Blk w1.drew (w.heap.size + 1) 129 [.int .i64 b.1, .int .u64 b.2] := by
    rw [hw1]
    have h0 := Blk.new (w.alloc (.cells #[.int .i64 a.1, .int .u64 a.2] 129)) 129 [.int .i64 b.1, .int .u64 b.2]
    simp only [World.size_alloc] at h0
    exact h0
  clear hw1
  refine wp_region_gs { R := Gw, R1 := Gw, gs := [Is (.pointer (some ⟨w.heap.size, 1, none⟩)), Is (.int .u64 a.2), Is (.pointer (some ⟨w.heap.size + 1, 1, none⟩)), Is (.int .u64 b.2), Is (.int .i64 (cmpI a.2 b.2)), Is (.pointer (some ⟨w.heap.size, 0, none⟩)), Is (.int .i64 a.1), Is (.pointer (some ⟨w.heap.size + 1, 0, none⟩)), Is (.int .i64 b.1), Is (.int .i64 (cmpI a.1 b.1)), (fun (v : Value) (w2 : World) => ∃ h, v = .slice (some ⟨h, 0, none⟩) 2 2 ∧ ∃ T, Blk w2 h T [.int .i64 (cmpI a.2 b.2), .int .i64 (cmpI a.1 b.1)]), Is (.int .i64 (cfT a b)), Is (.int .i64 (cfT a b))], ds := [some 5, some 6, some 7, some 8, some 9, some 10, some 11, some 12, some 13, some 14, some 15, some 16, some 4], fl := [false, false, false, false, false, false, false, false, false, false, false, false, false], hs := [], hd := [] } [false, false, false, false, true, true, true, true, true, true, true, true, true, true, true, true, true] (by kernel_rfl) _ (by kernel_rfl) (by kernel_rfl) (by kernel_rfl) (by kernel_rfl) rfl [] (fun _ _ _ h1 h2 => h1.trans h2) (fun _ _ h => h) (staI (staI (staI (staI (staI (staI (staI (staI (staI (staI (sta (fun _ _ _ hf ⟨h, h1, T, h2⟩ => ⟨h, h1, T, h2.fr (Gw.fr hf) (by simp)⟩) (staI (staI sta0))))))))))))) sth0 (fun _ _ h => h.fr.size) _ (Gw.refl _) trivial ?_ ?_
  · refine ⟨?_, ?_, ?_, ?_, ?_, ?_, ?_, ?_, ?_, ?_, ?_, ?_, ?_, trivial⟩
    · intro σ w' hR hd
      simp only [fill, Nat.reduceAdd, if_true, Bool.false_eq_true, if_false]
      clear hd
      go_wp2
      exact ⟨Gw.refl _, rfl⟩
    · intro σ w' hR hd
      simp only [fill, Nat.reduceAdd, if_true, Bool.false_eq_true, if_false]
      obtain h5 : σ 5 = _ := hd 0 (by decide)
      rw [h5]
      clear h5
      clear hd
      obtain ⟨d0, d1, df⟩ := (hba.fr hR.fr (by simp)).cells2
      go_wp2
      exact ⟨Gw.refl _, rfl⟩
    · intro σ w' hR hd
      simp only [fill, Nat.reduceAdd, if_true, Bool.false_eq_true, if_false]
      clear hd
      go_wp2
      exact ⟨Gw.refl _, rfl⟩
    · intro σ w' hR hd
      simp only [fill, Nat.reduceAdd, if_true, Bool.false_eq_true, if_false]
      obtain h7 : σ 7 = _ := hd 2 (by decide)
      rw [h7]
      clear h7
      clear hd
      obtain ⟨d0, d1, df⟩ := (hbb.fr hR.fr (by simp)).cells2
      go_wp2
      exact ⟨Gw.refl _, rfl⟩
    · intro σ w' hR hd
      simp only [fill, Nat.reduceAdd, if_true, Bool.false_eq_true, if_false]
      obtain h6 : σ 6 = _ := hd 1 (by decide)
      obtain h8 : σ 8 = _ := hd 3 (by decide)
      rw [h6, h8]
      clear h6 h8
      clear hd
      go_wp2_with fail
      refine (cmpU_calls a.2 b.2 _).mono ?_
      rintro e w4 ⟨rfl, hg0⟩
      have hgw := Hd.mk hg0
      clear hg0
      go_wp2
      exact ⟨hgw.out, rfl⟩
    · intro σ w' hR hd
      simp only [fill, Nat.reduceAdd, if_true, Bool.false_eq_true, if_false]
      clear hd
      go_wp2
      exact ⟨Gw.refl _, rfl⟩
    · intro σ w' hR hd
      simp only [fill, Nat.reduceAdd, if_true, Bool.false_eq_true, if_false]
      obtain h10 : σ 10 = _ := hd 5 (by decide)
      rw [h10]
      clear h10
      clear hd
      obtain ⟨d0, d1, df⟩ := (hba.fr hR.fr (by simp)).cells2
      go_wp2
      exact ⟨Gw.refl _, rfl⟩
    · intro σ w' hR hd
      simp only [fill, Nat.reduceAdd, if_true, Bool.false_eq_true, if_false]
      clear hd
      go_wp2
      exact ⟨Gw.refl _, rfl⟩
    · intro σ w' hR hd
      simp only [fill, Nat.reduceAdd, if_true, Bool.false_eq_true, if_false]
      obtain h12 : σ 12 = _ := hd 7 (by decide)
      rw [h12]
      clear h12
      clear hd
      obtain ⟨d0, d1, df⟩ := (hbb.fr hR.fr (by simp)).cells2
      go_wp2
      exact ⟨Gw.refl _, rfl⟩
    · intro σ w' hR hd
      simp only [fill, Nat.reduceAdd, if_true, Bool.false_eq_true, if_false]
      obtain h11 : σ 11 = _ := hd 6 (by decide)
      obtain h13 : σ 13 = _ := hd 8 (by decide)
      rw [h11, h13]
      clear h11 h13
      clear hd
      go_wp2_with fail
      refine (cmpI_calls a.1 b.1 _).mono ?_
      rintro e w4 ⟨rfl, hg0⟩
      have hgw := Hd.mk hg0
      clear hg0
      go_wp2
      exact ⟨hgw.out, rfl⟩
    · intro σ w' hR hd
      simp only [fill, Nat.reduceAdd, if_true, Bool.false_eq_true, if_false]
      obtain h9 : σ 9 = _ := hd 4 (by decide)
      obtain h14 : σ 14 = _ := hd 9 (by decide)
      rw [h9, h14]
      clear h9 h14
      clear hd
      go_wp2
      exact ⟨Gw.alloc _, ⟨_, rfl, _, Blk.new _ _ _⟩⟩
    · intro σ w' hR hd
      simp only [fill, Nat.reduceAdd, if_true, Bool.false_eq_true, if_false]
      obtain ⟨g, h15, T, hgb⟩ : (fun (v : Value) (w2 : World) => ∃ h, v = .slice (some ⟨h, 0, none⟩) 2 2 ∧ ∃ T, Blk w2 h T [.int .i64 (cmpI a.2 b.2), .int .i64 (cmpI a.1 b.1)]) (σ 15) w' := hd 10 (by decide)
      rw [h15]
      clear h15
      clear hd
      go_wp2_with fail
      refine (or_calls _ _ hgb).mono ?_
      rintro e w4 ⟨rfl, rfl⟩
      go_wp2
      exact ⟨Gw.refl _, rfl⟩
    · intro σ w' hR hd
      simp only [fill, Nat.reduceAdd, if_true, Bool.false_eq_true, if_false]
      obtain h16 : σ 16 = _ := hd 11 (by decide)
      rw [h16]
      clear h16
      clear hd
      go_wp2
      exact ⟨Gw.refl _, rfl⟩
  · intro σ w3 hR hG hH
    obtain h4 : σ 4 = _ := hG 12 (by decide)
    simp only [fill, Nat.reduceAdd, if_true, Bool.false_eq_true, if_false, h4]
    clear h4
    clear hG
    have hF3 := Hd.mk (hF.trans (Gw.drew.trans hR))
    go_wp2
    go_ret
    exact ⟨rfl, hF3.out⟩
end Go.Proofs.Ytogjfcmclfehkaa
