-- Written by a program for this claim: functions of the given program as Lean functions, and their contracts.
import Derived.Test.YtnikhiegnledlaaPPa
namespace Go.Proofs.Ytnikhiegnledlaa.PPM
open Go.RowKit Go.Proofs.YtnikhiegnledlaaW.PrintWords Go.Proofs.YtnikhiegnledlaaW.PrintLast Go.Proofs.YtnikhiegnledlaaW.PrintMore
attribute [local go_sem] max2_int min2_int max_two min_two max_three min_three max_four min_four   -- for this text's walks alone
set_option linter.unusedVariables false
set_option linter.unusedSimpArgs false

/-! ### derrickref13_Insert: function 23 -/
def derrickref13_Insert.j0 : Nat → List (S35) → Int → Int → Bool → ByteArray → Int → Int → List (S70) → Int → Int → Int → Option ((List (S35)) × Int)
  | 0, _, _, _, _, _, _, _, _, _, _, _ => none
  | k + 1, x0, x3, x10, x28, x110000, x110001, x110002, x110003, x110004, x110005, x110006 => if x28 = true then (some (x0, 5)) else ((some (([] : List (S35)) : List (S35))).bind fun y111 => (if y111.length + x0.length < 1954687338268 then ((some (y111 ++ x0 : List (S35))).bind fun y114 => (if x10 < 0 then (if y114.length < 1954687338268 then (some ((y114 ++ [(⟨(⟨x110000, x110001, x110002⟩ : S25), x110003, x110004, x110005, x110006⟩ : S35)]), 0)) else (none)) else (if 0 ≤ x10 then (if x10 < (x0.length : Int) then ((derrickref08_Beats.f ((rd_T35 x0 x10).f0.f0) ((rd_T35 x0 x10).f0.f1) ((rd_T35 x0 x10).f0.f2) ((rd_T35 x0 x10).f1) ((rd_T35 x0 x10).f2) ((rd_T35 x0 x10).f3) ((rd_T35 x0 x10).f4) x110000 x110001 x110002 x110003 x110004 x110005 x110006 x3).bind fun t121 => (if t121 = true then (if x10 < (y114.length : Int) then (some ((y114.set (x10 : Int).toNat (⟨(⟨x110000, x110001, x110002⟩ : S25), x110003, x110004, x110005, x110006⟩ : S35)), 0)) else (none)) else (some (x0, 7)))) else (none)) else (none)))) else (none)))
def derrickref13_Insert.f (k : Nat) (l0 : List (S35)) (a1 : Int) (a2_0 : ByteArray) (a2_1 : Int) (a2_2 : Int) (l2_3 : List (S70)) (a2_4 : Int) (a2_5 : Int) (a2_6 : Int) (a3 : Int) : Option ((List (S35)) × Int) := if a2_6 ≤ a3 then (some (l0, 4)) else ((derrickref13_Find.f k l0 a2_0 a2_1 a2_2).bind fun t110 => (if t110 < 0 then (derrickref13_Insert.j0 k l0 a3 t110 (decide ((l0.length : Int) ≥ a1)) a2_0 a2_1 a2_2 l2_3 a2_4 a2_5 a2_6) else (derrickref13_Insert.j0 k l0 a3 t110 false a2_0 a2_1 a2_2 l2_3 a2_4 a2_5 a2_6)))
theorem derrickref13_Insert.mono_l : ∀ k, (∀ y0 y1 y2 y3 y4 y5 y6 y7 y8 y9 y10, LeO (derrickref13_Insert.j0 k y0 y1 y2 y3 y4 y5 y6 y7 y8 y9 y10) (derrickref13_Insert.j0 (k + 1) y0 y1 y2 y3 y4 y5 y6 y7 y8 y9 y10))
  | 0 => fun _ _ _ _ _ _ _ _ _ _ _ r h => by simp [derrickref13_Insert.j0] at h
  | k + 1 => by
    have ih0 := derrickref13_Insert.mono_l k
    · intro y0 y1 y2 y3 y4 y5 y6 y7 y8 y9 y10
      unfold derrickref13_Insert.j0
      repeat' first
      | (with_reducible exact ih0 _ _ _ _ _ _ _ _ _ _ _)
      | (with_reducible exact derrickref13_Find.mono _ _ _ _ _)
      | (with_reducible exact LeO.refl _)
      | (with_reducible exact LeO.none _)
      | (with_reducible refine LeO.ite ?_ ?_)
      | (with_reducible refine LeO.bind ?_ (fun _ => ?_))
      | exact ih0 _ _ _ _ _ _ _ _ _ _ _
      | exact derrickref13_Find.mono _ _ _ _ _
      | exact LeO.none _
      | refine LeO.ite ?_ ?_
      | refine LeO.bind ?_ (fun _ => ?_)
theorem derrickref13_Insert.mono : ∀ a0 a1 a2 a3 a4 a5 a6 a7 a8 a9 k, LeO (derrickref13_Insert.f k a0 a1 a2 a3 a4 a5 a6 a7 a8 a9) (derrickref13_Insert.f (k + 1) a0 a1 a2 a3 a4 a5 a6 a7 a8 a9) := by
  intro a0 a1 a2 a3 a4 a5 a6 a7 a8 a9 k
  have ih0 := derrickref13_Insert.mono_l k
  unfold derrickref13_Insert.f
  repeat' first
      | (with_reducible exact ih0 _ _ _ _ _ _ _ _ _ _ _)
      | (with_reducible exact derrickref13_Find.mono _ _ _ _ _)
      | (with_reducible exact LeO.refl _)
      | (with_reducible exact LeO.none _)
      | (with_reducible refine LeO.ite ?_ ?_)
      | (with_reducible refine LeO.bind ?_ (fun _ => ?_))
      | exact ih0 _ _ _ _ _ _ _ _ _ _ _
      | exact derrickref13_Find.mono _ _ _ _ _
      | exact LeO.none _
      | refine LeO.ite ?_ ?_
      | refine LeO.bind ?_ (fun _ => ?_)
def derrickref13_Insert.T10 : Bool × List (List Nat × List Nat) := (true, [([], []), ([], []), ([0, 1], [0, 1]), ([2], [2]), ([], []), ([], []), ([3, 4, 5], [3, 4, 5]), ([6], [6])])
def derrickref13_Insert.B10 : List Nat := [0, 0, 3, 7, 0, 0, 63, 127]
theorem derrickref13_Insert.tab10 : rtab .any (opsOf Try.f23 10) = derrickref13_Insert.T10 := by kernel_rfl
theorem derrickref13_Insert.bits10 : waitsOk derrickref13_Insert.T10.2 derrickref13_Insert.B10 = true := by kernel_rfl
set_option maxHeartbeats 8000000 in
set_option maxRecDepth 100000 in
theorem derrickref13_Insert.calls (k : Nat) (P0_ : Nat → Prop) (A0 : Option Addr) (c0 : Nat) (l0 : List (S35)) (a1 : Int) (a2_0 : ByteArray) (a2_1 : Int) (a2_2 : Int) (P2_3_ : Nat → Prop) (A2_3 : Option Addr) (c2_3 : Nat) (l2_3 : List (S70)) (a2_4 : Int) (a2_5 : Int) (a2_6 : Int) (a3 : Int) (r1 : List (S35)) (r2 : Int) (w : World) (hs0 : Kd.V k35 35 w w.heap.size (fun k_ => P0_ k_) (.slice A0 l0.length c0) l0) (hs2_3 : Kd.V k70 70 w w.heap.size (fun k_ => P2_3_ k_) (.slice A2_3 l2_3.length c2_3) l2_3) (h : derrickref13_Insert.f k l0 a1 a2_0 a2_1 a2_2 l2_3 a2_4 a2_5 a2_6 a3 = some (r1, r2)) :
    Calls Try.prog 23 #[.slice A0 l0.length c0, .int .i64 a1, .agg #[.string a2_0, .int .u16 a2_1, .int .u16 a2_2, .slice A2_3 l2_3.length c2_3, .int .i64 a2_4, .int .i64 a2_5, .int .u64 a2_6], .int .u64 a3] w fun e w' => ∃ v0_ : Value, e = .returned (.tuple #[v0_, .int .i64 r2]) ∧ Kd.V k35 35 w' w.heap.size (fun k_ => ((P0_ k_ ∨ P2_3_ k_) ∨ w.heap.size ≤ k_)) v0_ r1 ∧ Below w.heap.size w w' := by
  have hu35 := Try.underlying35
  have hu25 := Try.underlying25
  have HO0 := Aside0.mk (show Kd.V k35 35 w w.heap.size (fun k_ => ((P0_ k_ ∨ P2_3_ k_) ∨ w.heap.size ≤ k_)) (.slice A0 l0.length c0) l0 from Kd.V_mono hs0 (fun k_ hk => .inl (.inl hk)))
  have HO2_3 := Aside0.mk (show Kd.V k70 70 w w.heap.size (fun k_ => ((P0_ k_ ∨ P2_3_ k_) ∨ w.heap.size ≤ k_)) (.slice A2_3 l2_3.length c2_3) l2_3 from Kd.V_mono hs2_3 (fun k_ hk => .inl (.inr hk)))
  have HB := Aside0.mk (Below.refl w.heap.size w)
  have H : (if a2_6 ≤ a3 then (some (l0, 4)) else ((derrickref13_Find.f k l0 a2_0 a2_1 a2_2).bind fun t110 => (if t110 < 0 then (derrickref13_Insert.j0 k l0 a3 t110 (decide ((l0.length : Int) ≥ a1)) a2_0 a2_1 a2_2 l2_3 a2_4 a2_5 a2_6) else (derrickref13_Insert.j0 k l0 a3 t110 false a2_0 a2_1 a2_2 l2_3 a2_4 a2_5 a2_6)))) = some (r1, r2) := h
  clear h
  by_cases c5 : a2_6 ≤ a3
  · rw [if_pos c5] at H
    have c5b0 : decide (a2_6 ≤ a3) = true := decide_eq_true c5
    clear c5
    simp only [Option.some.injEq, Prod.mk.injEq] at H
    obtain ⟨rfl, rfl⟩ := H
    go_enter Try.func23, Try.ntmps23
    go_wp2_with (first | ((with_reducible refine gate_dst (N := 6) rfl ?_); (try (refine gate_guard (by rfl) ?_; dsimp only)); refine box_event ?hg (N := 6) ?hd (cs := #[.string a2_0, .int .u16 a2_1, .int .u16 a2_2, .slice A2_3 l2_3.length c2_3, .int .i64 a2_4, .int .i64 a2_5, .int .u64 a2_6]) (t := 35) ?hr ?_; (case hd => rfl); (case hg => rfl); (case hr => first | (go_simp; done) | (go_simp; rfl)); intro gb109 hg w6 hbox hb; have n0_ := Aside0.mk (Kd.V_below (Kd.V_elderB (by (with_reducible repeat (first | apply Kd.V_alloc | apply Kd.V_drewN | apply Kd.V_drew)); exact HO0.out) gb109 (Nat.le_of_eq hg.symm)) hb); have n1_ := Aside0.mk (Kd.V_below (Kd.V_elderB (by (with_reducible repeat (first | apply Kd.V_alloc | apply Kd.V_drewN | apply Kd.V_drew)); exact HO2_3.out) gb109 (Nat.le_of_eq hg.symm)) hb); have n2_ := Aside0.mk (below_step (by repeat (first | (with_reducible first | exact HB.out | apply below_alloc | apply pw_below_drewN | apply below_drew1) | exact HB.out)) hb); have n3_ := Aside0.mk (hbox); have n4_ := Aside0.mk ((by rw [hg]; exact (below_size (by repeat (first | (with_reducible first | exact HB.out | apply below_alloc | apply pw_below_drewN | apply below_drew1) | exact HB.out))) : w.heap.size ≤ gb109)); have n5_ := Aside0.mk ((by rw [hg]; exact (below_size (by repeat (first | (with_reducible first | exact HB.out | apply below_alloc | apply pw_below_drewN | apply below_drew1) | exact HB.out))) : w.heap.size ≤ gb109)); clear HO0; clear HO2_3; clear HB; have HO0 := n0_; have HO2_3 := n1_; have HB := n2_; have BK109 := n3_; have GW109 := n4_; have GE109 := n5_; clear n0_ n1_ n2_ n3_ n4_ n5_; clear hb hbox hg; have hcz7_0 : w6.cell? ⟨gb109, 0, none⟩ = some (.string a2_0) := (blk_cell BK109.out 0).trans rfl; have hcz7_1 : w6.cell? ⟨gb109, 1, none⟩ = some (.int .u16 a2_1) := (blk_cell BK109.out 1).trans rfl; have hcz7_2 : w6.cell? ⟨gb109, 2, none⟩ = some (.int .u16 a2_2) := (blk_cell BK109.out 2).trans rfl; have hcz7_3 : w6.cell? ⟨gb109, 3, none⟩ = some (.slice A2_3 l2_3.length c2_3) := (blk_cell BK109.out 3).trans rfl; have hcz7_4 : w6.cell? ⟨gb109, 4, none⟩ = some (.int .i64 a2_4) := (blk_cell BK109.out 4).trans rfl; have hcz7_5 : w6.cell? ⟨gb109, 5, none⟩ = some (.int .i64 a2_5) := (blk_cell BK109.out 5).trans rfl; have hcz7_6 : w6.cell? ⟨gb109, 6, none⟩ = some (.int .u64 a2_6) := (blk_cell BK109.out 6).trans rfl; have hfz7_0 := blk_frozen BK109.out 0; have hfz7_1 := blk_frozen BK109.out 1; have hfz7_2 := blk_frozen BK109.out 2; have hfz7_3 := blk_frozen BK109.out 3; have hfz7_4 := blk_frozen BK109.out 4; have hfz7_5 := blk_frozen BK109.out 5; have hfz7_6 := blk_frozen BK109.out 6))
    go_ret2
    exact ⟨_, by first | rfl | (simp [errW_none, errW_some] <;> rfl) | (simp [*, errW_none, errW_some] <;> rfl), by (with_reducible repeat (first | apply Kd.V_alloc | apply Kd.V_drewN | apply Kd.V_drew)); exact Kd.V_mono HO0.out (fun _ hk => hk.1), by repeat (first | (with_reducible first | exact HB.out | apply below_alloc | apply pw_below_drewN | apply below_drew1 | refine below_set ?_ GE109.out) | exact HB.out)⟩
  · rw [if_neg c5] at H
    have c5b0 : decide (a2_6 ≤ a3) = false := decide_eq_false c5
    clear c5
    replace H := Option.bind_eq_some_iff.mp H
    obtain ⟨t110, A80, H⟩ := H
    replace H : (if t110 < 0 then (derrickref13_Insert.j0 k l0 a3 t110 (decide ((l0.length : Int) ≥ a1)) a2_0 a2_1 a2_2 l2_3 a2_4 a2_5 a2_6) else (derrickref13_Insert.j0 k l0 a3 t110 false a2_0 a2_1 a2_2 l2_3 a2_4 a2_5 a2_6)) = some (r1, r2) := H
    have A8 := Aside0.mk A80
    clear A80
    have HC9 := Aside0.mk H
    clear H
    go_enter Try.func23, Try.ntmps23
    go_upto_region 4 with (first | ((with_reducible refine gate_dst (N := 6) rfl ?_); (try (refine gate_guard (by rfl) ?_; dsimp only)); refine box_event ?hg (N := 6) ?hd (cs := #[.string a2_0, .int .u16 a2_1, .int .u16 a2_2, .slice A2_3 l2_3.length c2_3, .int .i64 a2_4, .int .i64 a2_5, .int .u64 a2_6]) (t := 35) ?hr ?_; (case hd => rfl); (case hg => rfl); (case hr => first | (go_simp; done) | (go_simp; rfl)); intro gb109 hg w10 hbox hb; have n0_ := Aside0.mk (Kd.V_below (Kd.V_elderB (by (with_reducible repeat (first | apply Kd.V_alloc | apply Kd.V_drewN | apply Kd.V_drew)); exact HO0.out) gb109 (Nat.le_of_eq hg.symm)) hb); have n1_ := Aside0.mk (Kd.V_below (Kd.V_elderB (by (with_reducible repeat (first | apply Kd.V_alloc | apply Kd.V_drewN | apply Kd.V_drew)); exact HO2_3.out) gb109 (Nat.le_of_eq hg.symm)) hb); have n2_ := Aside0.mk (below_step (by repeat (first | (with_reducible first | exact HB.out | apply below_alloc | apply pw_below_drewN | apply below_drew1) | exact HB.out)) hb); have n3_ := Aside0.mk (hbox); have n4_ := Aside0.mk ((by rw [hg]; exact (below_size (by repeat (first | (with_reducible first | exact HB.out | apply below_alloc | apply pw_below_drewN | apply below_drew1) | exact HB.out))) : w.heap.size ≤ gb109)); have n5_ := Aside0.mk ((by rw [hg]; exact (below_size (by repeat (first | (with_reducible first | exact HB.out | apply below_alloc | apply pw_below_drewN | apply below_drew1) | exact HB.out))) : w.heap.size ≤ gb109)); clear HO0; clear HO2_3; clear HB; have HO0 := n0_; have HO2_3 := n1_; have HB := n2_; have BK109 := n3_; have GW109 := n4_; have GE109 := n5_; clear n0_ n1_ n2_ n3_ n4_ n5_; clear hb hbox hg; have hcz11_0 : w10.cell? ⟨gb109, 0, none⟩ = some (.string a2_0) := (blk_cell BK109.out 0).trans rfl; have hcz11_1 : w10.cell? ⟨gb109, 1, none⟩ = some (.int .u16 a2_1) := (blk_cell BK109.out 1).trans rfl; have hcz11_2 : w10.cell? ⟨gb109, 2, none⟩ = some (.int .u16 a2_2) := (blk_cell BK109.out 2).trans rfl; have hcz11_3 : w10.cell? ⟨gb109, 3, none⟩ = some (.slice A2_3 l2_3.length c2_3) := (blk_cell BK109.out 3).trans rfl; have hcz11_4 : w10.cell? ⟨gb109, 4, none⟩ = some (.int .i64 a2_4) := (blk_cell BK109.out 4).trans rfl; have hcz11_5 : w10.cell? ⟨gb109, 5, none⟩ = some (.int .i64 a2_5) := (blk_cell BK109.out 5).trans rfl; have hcz11_6 : w10.cell? ⟨gb109, 6, none⟩ = some (.int .u64 a2_6) := (blk_cell BK109.out 6).trans rfl; have hfz11_0 := blk_frozen BK109.out 0; have hfz11_1 := blk_frozen BK109.out 1; have hfz11_2 := blk_frozen BK109.out 2; have hfz11_3 := blk_frozen BK109.out 3; have hfz11_4 := blk_frozen BK109.out 4; have hfz11_5 := blk_frozen BK109.out 5; have hfz11_6 := blk_frozen BK109.out 6) | ((with_reducible refine gate_callee (f := 15) rfl ?_); refine goesL_ (some 20) rfl rfl Try.func15 (by kernel_rfl) rfl #[.slice A0 l0.length c0, .agg #[.string a2_0, .int .u16 a2_1, .int .u16 a2_2]] rfl (by (try simp only [List.map_toArray, List.map_cons, List.map_nil]); first | done | rfl | (simp only [List.length_drop, List.length_take]; rfl)) ?_; (with_reducible refine (derrickref13_Find.calls k _ _ l0 a2_0 a2_1 a2_2 t110 _ ?side1 ?side2 A8.out).mono ?_); (case side1 => repeat (first | exact (Kd.V_reads' HO0.out).2.2 | (with_reducible refine Kd.C_alloc ?_ _) | (with_reducible refine Kd.C_drewN ?_ _) | (with_reducible refine Kd.C_drew ?_))); (case side2 => exact (Kd.V_reads' HO0.out).2.1); rintro e w12 ⟨rfl, hb⟩; refine ⟨_, rfl, ?_⟩; have n0_ := Aside0.mk (Kd.V_below (by (with_reducible repeat (first | apply Kd.V_alloc | apply Kd.V_drewN | apply Kd.V_drew)); exact HO0.out) hb); have n1_ := Aside0.mk (Kd.V_below (by (with_reducible repeat (first | apply Kd.V_alloc | apply Kd.V_drewN | apply Kd.V_drew)); exact HO2_3.out) hb); have n2_ := Aside0.mk (blk_below (g := gb109) (o := .cells #[.string a2_0, .int .u16 a2_1, .int .u16 a2_2, .slice A2_3 l2_3.length c2_3, .int .i64 a2_4, .int .i64 a2_5, .int .u64 a2_6] 35 (0, 0)) (by (with_reducible repeat (first | refine blk_drewN ?_ _ | refine blk_drew ?_ | refine blk_alloc ?_ _)); exact BK109.out) hb); have n3_ := Aside0.mk (below_step (by repeat (first | (with_reducible first | exact HB.out | apply below_alloc | apply pw_below_drewN | apply below_drew1 | refine below_set ?_ GE109.out) | exact HB.out)) hb); clear HO0; clear HO2_3; clear BK109; clear HB; have HO0 := n0_; have HO2_3 := n1_; have BK109 := n2_; have HB := n3_; clear n0_ n1_ n2_ n3_; (try clear hb); (try clear hb2); (try clear hk); (try clear hi)))
    (try simp only [Act.put, List.setIfInBounds_toArray, List.set_cons_zero, List.set_cons_succ])
    go_cut [28] (fun v28 wc => ∃ (kq : Nat) (x28_8 : Bool), v28 = .bool x28_8 ∧ Aside0 (derrickref13_Insert.j0 kq l0 a3 t110 x28_8 a2_0 a2_1 a2_2 l2_3 a2_4 a2_5 a2_6 = some (r1, r2)) ∧ Aside0 (kq ≤ k) ∧ Aside0 (Kd.V k35 35 wc w.heap.size (fun k_ => ((P0_ k_ ∨ P2_3_ k_) ∨ w.heap.size ≤ k_) ∧ k_ ≠ gb109) (.slice A0 l0.length c0) l0) ∧ Aside0 (Kd.V k70 70 wc w.heap.size (fun k_ => ((P0_ k_ ∨ P2_3_ k_) ∨ w.heap.size ≤ k_) ∧ k_ ≠ gb109) (.slice A2_3 l2_3.length c2_3) l2_3) ∧ Aside0 (wc.heap[gb109]? = some (.cells #[.string a2_0, .int .u16 a2_1, .int .u16 a2_2, (.slice A2_3 l2_3.length c2_3), .int .i64 a2_4, .int .i64 a2_5, .int .u64 a2_6] 35 (0, 0))) ∧ Aside0 (Below w.heap.size w wc))
    case first =>
      have H := HC9.out
      clear HC9
      by_cases c13 : t110 < 0
      · rw [if_pos c13] at H
        have c13b0 : decide (t110 < 0) = true := decide_eq_true c13
        clear c13
        (first | rw [c13b0] | rw [c13b1] | (simp only [i64_w, i32_w]; rw [c13b0]) | skip)
        have H' := Aside0.mk H
        clear H
        go_wp2
        go_meet
        case rel => exact ⟨_, (decide ((l0.length : Int) ≥ a1)), (by first | rfl | (simp; done) | (simp [*]; done)), H', ⟨by first | omega | exact Nat.le_refl _⟩, ⟨by (with_reducible repeat (first | apply Kd.V_alloc | apply Kd.V_drewN | apply Kd.V_drew)); exact HO0.out⟩, ⟨by (with_reducible repeat (first | apply Kd.V_alloc | apply Kd.V_drewN | apply Kd.V_drew)); exact HO2_3.out⟩, ⟨by (with_reducible repeat (first | refine blk_drewN ?_ _ | refine blk_drew ?_ | refine blk_alloc ?_ _)); exact BK109.out⟩, ⟨by repeat (first | (with_reducible first | exact HB.out | apply below_alloc | apply pw_below_drewN | apply below_drew1 | refine below_set ?_ GE109.out) | exact HB.out)⟩⟩
      · rw [if_neg c13] at H
        have c13b0 : decide (t110 < 0) = false := decide_eq_false c13
        clear c13
        (first | rw [c13b0] | rw [c13b1] | (simp only [i64_w, i32_w]; rw [c13b0]) | skip)
        have H' := Aside0.mk H
        clear H
        go_wp2
        go_meet
        case rel => exact ⟨_, (false), (by first | rfl | (simp; done) | (simp [*]; done)), H', ⟨by first | omega | exact Nat.le_refl _⟩, ⟨by (with_reducible repeat (first | apply Kd.V_alloc | apply Kd.V_drewN | apply Kd.V_drew)); exact HO0.out⟩, ⟨by (with_reducible repeat (first | apply Kd.V_alloc | apply Kd.V_drewN | apply Kd.V_drew)); exact HO2_3.out⟩, ⟨by (with_reducible repeat (first | refine blk_drewN ?_ _ | refine blk_drew ?_ | refine blk_alloc ?_ _)); exact BK109.out⟩, ⟨by repeat (first | (with_reducible first | exact HB.out | apply below_alloc | apply pw_below_drewN | apply below_drew1 | refine below_set ?_ GE109.out) | exact HB.out)⟩⟩
    case rest =>
      clear HC9
      try clear c1
      try clear c2
      try clear p2
      try clear c5
      try clear c5b0
      try clear c13
      try clear c13b0
      try clear c13b1
      try clear hcz11_0
      try clear hcz11_1
      try clear hcz11_2
      try clear hcz11_3
      try clear hcz11_4
      try clear hcz11_5
      try clear hcz11_6
      try clear hcz7_0
      try clear hcz7_1
      try clear hcz7_2
      try clear hcz7_3
      try clear hcz7_4
      try clear hcz7_5
      try clear hcz7_6
      try clear hfz11_0
      try clear hfz11_1
      try clear hfz11_2
      try clear hfz11_3
      try clear hfz11_4
      try clear hfz11_5
      try clear hfz11_6
      try clear hfz7_0
      try clear hfz7_1
      try clear hfz7_2
      try clear hfz7_3
      try clear hfz7_4
      try clear hfz7_5
      try clear hfz7_6
      obtain ⟨kq, x28_8, rfl, HA, HJ8, HO_0, HO_110003, BK109, HB⟩ := hcut
      cases kq with
      | zero => exact absurd HA.out (by simp [derrickref13_Insert.j0])
      | succ kj8 =>
        have H := HA.out
        clear HA
        simp only [derrickref13_Insert.j0] at H
        by_cases c14 : x28_8 = true
        · subst c14
          have H1 : (some (l0, 5)) = some (r1, r2) := by rw [if_pos rfl] at H; exact H
          clear H
          have H := H1
          clear H1
          simp only [Option.some.injEq, Prod.mk.injEq] at H
          obtain ⟨rfl, rfl⟩ := H
          go_wp2
          go_ret2
          exact ⟨_, by first | rfl | (simp [errW_none, errW_some] <;> rfl) | (simp [*, errW_none, errW_some] <;> rfl), by (with_reducible repeat (first | apply Kd.V_alloc | apply Kd.V_drewN | apply Kd.V_drew)); exact Kd.V_mono HO_0.out (fun _ hk => hk.1), by repeat (first | (with_reducible first | exact HB.out | apply below_alloc | apply pw_below_drewN | apply below_drew1 | refine below_set ?_ GE109.out) | exact HB.out)⟩
        · replace c14 := Bool.eq_false_iff.mpr c14
          subst c14
          have H1 : ((some (([] : List (S35)) : List (S35))).bind fun y111 => (if y111.length + l0.length < 1954687338268 then ((some (y111 ++ l0 : List (S35))).bind fun y114 => (if t110 < 0 then (if y114.length < 1954687338268 then (some ((y114 ++ [(⟨(⟨a2_0, a2_1, a2_2⟩ : S25), l2_3, a2_4, a2_5, a2_6⟩ : S35)]), 0)) else (none)) else (if 0 ≤ t110 then (if t110 < (l0.length : Int) then ((derrickref08_Beats.f ((rd_T35 l0 t110).f0.f0) ((rd_T35 l0 t110).f0.f1) ((rd_T35 l0 t110).f0.f2) ((rd_T35 l0 t110).f1) ((rd_T35 l0 t110).f2) ((rd_T35 l0 t110).f3) ((rd_T35 l0 t110).f4) a2_0 a2_1 a2_2 l2_3 a2_4 a2_5 a2_6 a3).bind fun t121 => (if t121 = true then (if t110 < (y114.length : Int) then (some ((y114.set (t110 : Int).toNat (⟨(⟨a2_0, a2_1, a2_2⟩ : S25), l2_3, a2_4, a2_5, a2_6⟩ : S35)), 0)) else (none)) else (some (l0, 7)))) else (none)) else (none)))) else (none))) = some (r1, r2) := by rw [if_neg (show ¬ (false = true) by decide)] at H; exact H
          clear H
          have H := H1
          clear H1
          obtain ⟨y111, hy111⟩ : ∃ y_ : List (S35), y_ = (([] : List (S35))) := ⟨_, rfl⟩
          replace H : (if y111.length + l0.length < 1954687338268 then ((some (y111 ++ l0 : List (S35))).bind fun y114 => (if t110 < 0 then (if y114.length < 1954687338268 then (some ((y114 ++ [(⟨(⟨a2_0, a2_1, a2_2⟩ : S25), l2_3, a2_4, a2_5, a2_6⟩ : S35)]), 0)) else (none)) else (if 0 ≤ t110 then (if t110 < (l0.length : Int) then ((derrickref08_Beats.f ((rd_T35 l0 t110).f0.f0) ((rd_T35 l0 t110).f0.f1) ((rd_T35 l0 t110).f0.f2) ((rd_T35 l0 t110).f1) ((rd_T35 l0 t110).f2) ((rd_T35 l0 t110).f3) ((rd_T35 l0 t110).f4) a2_0 a2_1 a2_2 l2_3 a2_4 a2_5 a2_6 a3).bind fun t121 => (if t121 = true then (if t110 < (y114.length : Int) then (some ((y114.set (t110 : Int).toNat (⟨(⟨a2_0, a2_1, a2_2⟩ : S25), l2_3, a2_4, a2_5, a2_6⟩ : S35)), 0)) else (none)) else (some (l0, 7)))) else (none)) else (none)))) else (none)) = some (r1, r2) := by first | (rw [hy111]; with_reducible exact H) | (have H2_ := (Option.bind_some _ _).symm.trans H; rw [hy111]; with_reducible exact H2_) | (have H2_ := (Option.bind_some _ _).symm.trans H; with_reducible exact H2_) | with_reducible exact H | (rw [hy111]; exact H) | exact H
          have Ny111 := Aside0.mk hy111
          clear hy111
          by_cases c15 : y111.length + l0.length < 1954687338268
          · rw [if_pos c15] at H
            have LMc15 := Aside0.mk c15
            clear c15
            obtain ⟨y114, hy114⟩ : ∃ y_ : List (S35), y_ = (y111 ++ l0) := ⟨_, rfl⟩
            replace H : (if t110 < 0 then (if y114.length < 1954687338268 then (some ((y114 ++ [(⟨(⟨a2_0, a2_1, a2_2⟩ : S25), l2_3, a2_4, a2_5, a2_6⟩ : S35)]), 0)) else (none)) else (if 0 ≤ t110 then (if t110 < (l0.length : Int) then ((derrickref08_Beats.f ((rd_T35 l0 t110).f0.f0) ((rd_T35 l0 t110).f0.f1) ((rd_T35 l0 t110).f0.f2) ((rd_T35 l0 t110).f1) ((rd_T35 l0 t110).f2) ((rd_T35 l0 t110).f3) ((rd_T35 l0 t110).f4) a2_0 a2_1 a2_2 l2_3 a2_4 a2_5 a2_6 a3).bind fun t121 => (if t121 = true then (if t110 < (y114.length : Int) then (some ((y114.set (t110 : Int).toNat (⟨(⟨a2_0, a2_1, a2_2⟩ : S25), l2_3, a2_4, a2_5, a2_6⟩ : S35)), 0)) else (none)) else (some (l0, 7)))) else (none)) else (none))) = some (r1, r2) := by first | (rw [hy114]; with_reducible exact H) | (have H2_ := (Option.bind_some _ _).symm.trans H; rw [hy114]; with_reducible exact H2_) | (have H2_ := (Option.bind_some _ _).symm.trans H; with_reducible exact H2_) | with_reducible exact H | (rw [hy114]; exact H) | exact H
            have Ny114 := Aside0.mk hy114
            clear hy114
            by_cases c16 : t110 < 0
            · rw [if_pos c16] at H
              have c16b0 : decide (t110 < 0) = true := decide_eq_true c16
              clear c16
              by_cases c17 : y114.length < 1954687338268
              · rw [if_pos c17] at H
                have LMc17 := Aside0.mk c17
                clear c17
                obtain ⟨y117, hy117⟩ : ∃ y_ : List (S35), y_ = (y114 ++ [(⟨(⟨a2_0, a2_1, a2_2⟩ : S25), l2_3, a2_4, a2_5, a2_6⟩ : S35)]) := ⟨_, rfl⟩
                replace H : (some (y117, 0)) = some (r1, r2) := by first | (rw [hy117]; with_reducible exact H) | (have H2_ := (Option.bind_some _ _).symm.trans H; rw [hy117]; with_reducible exact H2_) | (have H2_ := (Option.bind_some _ _).symm.trans H; with_reducible exact H2_) | with_reducible exact H | (rw [hy117]; exact H) | exact H
                have Ny117 := Aside0.mk hy117
                clear hy117
                simp only [Option.some.injEq, Prod.mk.injEq] at H
                obtain ⟨rfl, rfl⟩ := H
                go_wp2_with (first | ((with_reducible refine gate_dst (N := 30) rfl ?_); (try (refine gate_guard (by rfl) ?_; dsimp only)); refine Kd.N_lit k35 _ 35 ?hg (N' := 30) ?hd (xs := ([] : List (S35))) (inner := []) (ok := (fun k_ => ((P0_ k_ ∨ P2_3_ k_) ∨ w.heap.size ≤ k_) ∧ k_ ≠ gb109)) (okp := (fun k_ => ((P0_ k_ ∨ P2_3_ k_) ∨ w.heap.size ≤ k_) ∧ k_ ≠ gb109)) ?hr ?hp (fun _ hk => hk) ((show ∀ k_, wc.heap.size ≤ k_ → (fun k_ => ((P0_ k_ ∨ P2_3_ k_) ∨ w.heap.size ≤ k_) ∧ k_ ≠ gb109) k_ from fun k_ hk => ⟨(.inr (Nat.le_trans (below_size (by repeat (first | (with_reducible first | exact HB.out | apply below_alloc | apply pw_below_drewN | apply below_drew1 | refine below_set ?_ GE109.out) | exact HB.out))) hk)), Kd.freshB (g := gb109) (o := .cells #[.string a2_0, .int .u16 a2_1, .int .u16 a2_2, .slice A2_3 l2_3.length c2_3, .int .i64 a2_4, .int .i64 a2_5, .int .u64 a2_6] 35 (0, 0)) (by (with_reducible repeat (first | refine blk_drewN ?_ _ | refine blk_drew ?_ | refine blk_alloc ?_ _)); exact BK109.out) k_ hk⟩) _ (Nat.le_refl _)) (Below.refl _ _) (Nat.le_refl _) (by simp) ?_; (case hd => rfl); (case hg => rfl); (case hr => first | (go_simp; done) | (go_simp; rfl)); (case hp => exact (Reps.none _ _)); intro v112 w18 ho19 hb hg_ hnew_; clear hg_ hnew_; (first | rw [← Ny111.out] at ho19 | (simp only [Int.reduceToNat] at ho19; rw [← Ny111.out] at ho19)); have n0_ := Aside0.mk (Kd.V_elder' (by (with_reducible repeat (first | apply Kd.V_alloc | apply Kd.V_drewN | apply Kd.V_drew)); exact HO_0.out) (Kd.N_base ho19) hb); have n1_ := Aside0.mk (Kd.V_elder' (by (with_reducible repeat (first | apply Kd.V_alloc | apply Kd.V_drewN | apply Kd.V_drew)); exact HO_110003.out) (Kd.N_base ho19) hb); have n2_ := Aside0.mk (Kd.N_lower ho19 (below_size (by repeat (first | (with_reducible first | exact HB.out | apply below_alloc | apply pw_below_drewN | apply below_drew1 | refine below_set ?_ GE109.out) | exact HB.out)))); have n3_ := Aside0.mk (blk_below (g := gb109) (o := .cells #[.string a2_0, .int .u16 a2_1, .int .u16 a2_2, .slice A2_3 l2_3.length c2_3, .int .i64 a2_4, .int .i64 a2_5, .int .u64 a2_6] 35 (0, 0)) (by (with_reducible repeat (first | refine blk_drewN ?_ _ | refine blk_drew ?_ | refine blk_alloc ?_ _)); exact BK109.out) hb); have n4_ := Aside0.mk (below_step (by repeat (first | (with_reducible first | exact HB.out | apply below_alloc | apply pw_below_drewN | apply below_drew1 | refine below_set ?_ GE109.out) | exact HB.out)) hb); clear HO_0; clear HO_110003; clear BK109; clear HB; have HO_0 := n0_; have HO_110003 := n1_; have HO113 := n2_; have BK109 := n3_; have HB := n4_; clear n0_ n1_ n2_ n3_ n4_; clear hb ho19) | ((with_reducible refine gate_builtin (b := .append) (xs := #[.tmp 30, .tmp 31]) rfl ?_); (try (refine gate_guard (by rfl) ?_; dsimp only)); at_builtin; refine Kd.N_append_rows k35 (w0 := w) w.heap.size rfl (.tmp 30) (.tmp 31) 29 35 (.agg #[(.string ⟨#[]⟩), (.int .u16 0), (.int .u16 0), (.slice none 0 0), (.int .i64 0), (.int .i64 0), (.int .u64 0)]) 72 rfl Try.underlying29 info35 rfl (by decide) (by omega) v112 y111 l0 _ _ _ (fun k_ => ((P0_ k_ ∨ P2_3_ k_) ∨ w.heap.size ≤ k_) ∧ k_ ≠ gb109) (fun k_ => ((fun k_ => ((P0_ k_ ∨ P2_3_ k_) ∨ w.heap.size ≤ k_) ∧ k_ ≠ gb109)) k_ ∧ some k_ ≠ (v112 : Value).ownBlock) rfl rfl ?aO ?aR (fun _ hk => hk) ?aF ?aB ?aS ?aL ?_; (case aR => exact (by skip; exact Kd.V_F (Kd.V_mono (ok' := (fun k_ => ((fun k_ => ((P0_ k_ ∨ P2_3_ k_) ∨ w.heap.size ≤ k_) ∧ k_ ≠ gb109)) k_ ∧ some k_ ≠ (v112 : Value).ownBlock)) (HO_0.out) (fun k_ hk => ⟨⟨hk.1.1, hk.1.2⟩, hk.2⟩)))); (case aB => exact (by repeat (first | (with_reducible first | exact HB.out | apply below_alloc | apply pw_below_drewN | apply below_drew1 | refine below_set ?_ GE109.out) | exact HB.out))); (case aF => exact (fun k_ hk => ⟨(.inr (Nat.le_trans (below_size (by repeat (first | (with_reducible first | exact HB.out | apply below_alloc | apply pw_below_drewN | apply below_drew1 | refine below_set ?_ GE109.out) | exact HB.out))) hk)), Kd.freshB (g := gb109) (o := .cells #[.string a2_0, .int .u16 a2_1, .int .u16 a2_2, .slice A2_3 l2_3.length c2_3, .int .i64 a2_4, .int .i64 a2_5, .int .u64 a2_6] 35 (0, 0)) (by (with_reducible repeat (first | refine blk_drewN ?_ _ | refine blk_drew ?_ | refine blk_alloc ?_ _)); exact BK109.out) k_ hk⟩)); (case aO => exact (by (with_reducible repeat (first | apply Kd.N_alloc | apply Kd.N_drewN | apply Kd.N_drew)); exact HO113.out)); (case aS => exact (below_size (by repeat (first | (with_reducible first | exact HB.out | apply below_alloc | apply pw_below_drewN | apply below_drew1 | refine below_set ?_ GE109.out) | exact HB.out)))); (case aL => have := LMc15.out; omega); intro v115 w20 ho hb hg hat; rw [← Ny114.out] at ho; have n0_ := Aside0.mk (Kd.V_afterv (ok := (fun k_ => ((P0_ k_ ∨ P2_3_ k_) ∨ w.heap.size ≤ k_) ∧ k_ ≠ gb109)) (by (with_reducible repeat (first | apply Kd.V_alloc | apply Kd.V_drewN | apply Kd.V_drew)); exact HO_0.out) hg hat); have n1_ := Aside0.mk (Kd.V_afterv (ok := (fun k_ => ((P0_ k_ ∨ P2_3_ k_) ∨ w.heap.size ≤ k_) ∧ k_ ≠ gb109)) (by (with_reducible repeat (first | apply Kd.V_alloc | apply Kd.V_drewN | apply Kd.V_drew)); exact HO_110003.out) hg hat); have n2_ := Aside0.mk (blk_grown (g := gb109) (o := .cells #[.string a2_0, .int .u16 a2_1, .int .u16 a2_2, .slice A2_3 l2_3.length c2_3, .int .i64 a2_4, .int .i64 a2_5, .int .u64 a2_6] 35 (0, 0)) (by (with_reducible repeat (first | refine blk_drewN ?_ _ | refine blk_drew ?_ | refine blk_alloc ?_ _)); exact BK109.out) hg (Kd.N_away HO113.out (fun _ hk => hk.2))); have n3_ := Aside0.mk (hb); have n4_ := Aside0.mk (ho); clear HO_0; clear HO_110003; clear BK109; clear HB; clear HO113; have HO_0 := n0_; have HO_110003 := n1_; have BK109 := n2_; have HB := n3_; have HO116 := n4_; clear n0_ n1_ n2_ n3_ n4_; clear ho hb hg hat; have hcz21_0 : w20.cell? ⟨gb109, 0, none⟩ = some (.string a2_0) := (blk_cell BK109.out 0).trans rfl; have hcz21_1 : w20.cell? ⟨gb109, 1, none⟩ = some (.int .u16 a2_1) := (blk_cell BK109.out 1).trans rfl; have hcz21_2 : w20.cell? ⟨gb109, 2, none⟩ = some (.int .u16 a2_2) := (blk_cell BK109.out 2).trans rfl; have hcz21_3 : w20.cell? ⟨gb109, 3, none⟩ = some (.slice A2_3 l2_3.length c2_3) := (blk_cell BK109.out 3).trans rfl; have hcz21_4 : w20.cell? ⟨gb109, 4, none⟩ = some (.int .i64 a2_4) := (blk_cell BK109.out 4).trans rfl; have hcz21_5 : w20.cell? ⟨gb109, 5, none⟩ = some (.int .i64 a2_5) := (blk_cell BK109.out 5).trans rfl; have hcz21_6 : w20.cell? ⟨gb109, 6, none⟩ = some (.int .u64 a2_6) := (blk_cell BK109.out 6).trans rfl; have hfz21_0 := blk_frozen BK109.out 0; have hfz21_1 := blk_frozen BK109.out 1; have hfz21_2 := blk_frozen BK109.out 2; have hfz21_3 := blk_frozen BK109.out 3; have hfz21_4 := blk_frozen BK109.out 4; have hfz21_5 := blk_frozen BK109.out 5; have hfz21_6 := blk_frozen BK109.out 6) | ((with_reducible refine gate_builtin (b := .append) (xs := #[.tmp 35, .tmp 37]) rfl ?_); (try (refine gate_guard (by rfl) ?_; dsimp only)); at_builtin; refine Kd.N_append k35 (w0 := w) w.heap.size rfl (.tmp 35) (.tmp 37) 29 35 (.agg #[(.string ⟨#[]⟩), (.int .u16 0), (.int .u16 0), (.slice none 0 0), (.int .i64 0), (.int .i64 0), (.int .u64 0)]) 72 rfl Try.underlying29 info35 rfl (by decide) (by omega) v115 y114 (⟨(⟨a2_0, a2_1, a2_2⟩ : S25), l2_3, a2_4, a2_5, a2_6⟩ : S35) [.string a2_0, .int .u16 a2_1, .int .u16 a2_2, .slice A2_3 l2_3.length c2_3, .int .i64 a2_4, .int .i64 a2_5, .int .u64 a2_6] (fun k_ => ((P0_ k_ ∨ P2_3_ k_) ∨ w.heap.size ≤ k_) ∧ k_ ≠ gb109) (fun k_ => ((fun k_ => ((P0_ k_ ∨ P2_3_ k_) ∨ w.heap.size ≤ k_) ∧ k_ ≠ gb109)) k_ ∧ some k_ ≠ (v115 : Value).ownBlock) rfl rfl ?aP (fun _ hk => hk) ?aF ?aO ?aB ?aS ?aL ?_; (case aP => exact (k35_mkF _ _ (⟨(⟨a2_0, a2_1, a2_2⟩ : S25), l2_3, a2_4, a2_5, a2_6⟩ : S35) (Kd.V_reads' (Kd.V_mono (ok' := (fun k_ => ((fun k_ => ((P0_ k_ ∨ P2_3_ k_) ∨ w.heap.size ≤ k_) ∧ k_ ≠ gb109)) k_ ∧ some k_ ≠ (v115 : Value).ownBlock)) (HO_110003.out) (fun k_ hk => ⟨⟨hk.1.1, hk.1.2⟩, hk.2⟩))).2.1 (Kd.V_F (Kd.V_mono (ok' := (fun k_ => ((fun k_ => ((P0_ k_ ∨ P2_3_ k_) ∨ w.heap.size ≤ k_) ∧ k_ ≠ gb109)) k_ ∧ some k_ ≠ (v115 : Value).ownBlock)) (HO_110003.out) (fun k_ hk => ⟨⟨hk.1.1, hk.1.2⟩, hk.2⟩))))); (case aB => exact (by repeat (first | (with_reducible first | exact HB.out | apply below_alloc | apply pw_below_drewN | apply below_drew1 | refine below_set ?_ GE109.out) | exact HB.out))); (case aF => exact (fun k_ hk => ⟨(.inr (Nat.le_trans (below_size (by repeat (first | (with_reducible first | exact HB.out | apply below_alloc | apply pw_below_drewN | apply below_drew1 | refine below_set ?_ GE109.out) | exact HB.out))) hk)), Kd.freshB (g := gb109) (o := .cells #[.string a2_0, .int .u16 a2_1, .int .u16 a2_2, .slice A2_3 l2_3.length c2_3, .int .i64 a2_4, .int .i64 a2_5, .int .u64 a2_6] 35 (0, 0)) (by (with_reducible repeat (first | refine blk_drewN ?_ _ | refine blk_drew ?_ | refine blk_alloc ?_ _)); exact BK109.out) k_ hk⟩)); (case aO => exact (by (with_reducible repeat (first | apply Kd.N_alloc | apply Kd.N_drewN | apply Kd.N_drew)); exact HO116.out)); (case aS => exact (below_size (by repeat (first | (with_reducible first | exact HB.out | apply below_alloc | apply pw_below_drewN | apply below_drew1 | refine below_set ?_ GE109.out) | exact HB.out)))); (case aL => have := LMc17.out; omega); intro v118 w22 ho hb hg hat; rw [← Ny117.out] at ho; have n0_ := Aside0.mk (Kd.V_afterv (ok := (fun k_ => ((P0_ k_ ∨ P2_3_ k_) ∨ w.heap.size ≤ k_) ∧ k_ ≠ gb109)) (by (with_reducible repeat (first | apply Kd.V_alloc | apply Kd.V_drewN | apply Kd.V_drew)); exact HO_0.out) hg hat); have n1_ := Aside0.mk (Kd.V_afterv (ok := (fun k_ => ((P0_ k_ ∨ P2_3_ k_) ∨ w.heap.size ≤ k_) ∧ k_ ≠ gb109)) (by (with_reducible repeat (first | apply Kd.V_alloc | apply Kd.V_drewN | apply Kd.V_drew)); exact HO_110003.out) hg hat); have n2_ := Aside0.mk (blk_grown (g := gb109) (o := .cells #[.string a2_0, .int .u16 a2_1, .int .u16 a2_2, .slice A2_3 l2_3.length c2_3, .int .i64 a2_4, .int .i64 a2_5, .int .u64 a2_6] 35 (0, 0)) (by (with_reducible repeat (first | refine blk_drewN ?_ _ | refine blk_drew ?_ | refine blk_alloc ?_ _)); exact BK109.out) hg (Kd.N_away HO116.out (fun _ hk => hk.2))); have n3_ := Aside0.mk (hb); have n4_ := Aside0.mk (ho); clear HO_0; clear HO_110003; clear BK109; clear HB; clear HO116; have HO_0 := n0_; have HO_110003 := n1_; have BK109 := n2_; have HB := n3_; have HO119 := n4_; clear n0_ n1_ n2_ n3_ n4_; clear ho hb hg hat))
                go_ret2
                exact ⟨_, by first | rfl | (simp [errW_none, errW_some] <;> rfl) | (simp [*, errW_none, errW_some] <;> rfl), Kd.N_V (by (with_reducible repeat (first | apply Kd.N_alloc | apply Kd.N_drewN | apply Kd.N_drew)); exact Kd.N_mono HO119.out (fun _ hk => hk.1)), by repeat (first | (with_reducible first | exact HB.out | apply below_alloc | apply pw_below_drewN | apply below_drew1 | refine below_set ?_ GE109.out) | exact HB.out)⟩
              · rw [if_neg c17] at H
                exact absurd H (by simp)
            · rw [if_neg c16] at H
              have c16b0 : decide (t110 < 0) = false := decide_eq_false c16
              clear c16
              by_cases c23 : 0 ≤ t110
              · rw [if_pos c23] at H
                have c23b0 : decide (0 ≤ t110) = true := decide_eq_true c23
                clear c23
                by_cases c24 : t110 < (l0.length : Int)
                · rw [if_pos c24] at H
                  have c24b0 : decide (t110 < (l0.length : Int)) = true := decide_eq_true c24
                  clear c24
                  replace H := Option.bind_eq_some_iff.mp H
                  obtain ⟨t121, A250, H⟩ := H
                  replace H : (if t121 = true then (if t110 < (y114.length : Int) then (some ((y114.set (t110 : Int).toNat (⟨(⟨a2_0, a2_1, a2_2⟩ : S25), l2_3, a2_4, a2_5, a2_6⟩ : S35)), 0)) else (none)) else (some (l0, 7))) = some (r1, r2) := H
                  have A25 := Aside0.mk A250
                  clear A250
                  by_cases c26 : t121 = true
                  · subst c26
                    have H1 : (if t110 < (y114.length : Int) then (some ((y114.set (t110 : Int).toNat (⟨(⟨a2_0, a2_1, a2_2⟩ : S25), l2_3, a2_4, a2_5, a2_6⟩ : S35)), 0)) else (none)) = some (r1, r2) := by rw [if_pos rfl] at H; exact H
                    clear H
                    have H := H1
                    clear H1
                    by_cases c27 : t110 < (y114.length : Int)
                    · rw [if_pos c27] at H
                      have c27b0 : decide (t110 < (y114.length : Int)) = true := decide_eq_true c27
                      clear c27
                      obtain ⟨y122, hy122⟩ : ∃ y_ : List (S35), y_ = (y114.set (t110 : Int).toNat (⟨(⟨a2_0, a2_1, a2_2⟩ : S25), l2_3, a2_4, a2_5, a2_6⟩ : S35)) := ⟨_, rfl⟩
                      replace H : (some (y122, 0)) = some (r1, r2) := by first | (rw [hy122]; with_reducible exact H) | (have H2_ := (Option.bind_some _ _).symm.trans H; rw [hy122]; with_reducible exact H2_) | (have H2_ := (Option.bind_some _ _).symm.trans H; with_reducible exact H2_) | with_reducible exact H | (rw [hy122]; exact H) | exact H
                      have Ny122 := Aside0.mk hy122
                      clear hy122
                      simp only [Option.some.injEq, Prod.mk.injEq] at H
                      obtain ⟨rfl, rfl⟩ := H
                      try go_wp2_with (first | ((with_reducible refine gate_dst (N := 30) rfl ?_); (try (refine gate_guard (by rfl) ?_; dsimp only)); refine Kd.N_lit k35 _ 35 ?hg (N' := 30) ?hd (xs := ([] : List (S35))) (inner := []) (ok := (fun k_ => ((P0_ k_ ∨ P2_3_ k_) ∨ w.heap.size ≤ k_) ∧ k_ ≠ gb109)) (okp := (fun k_ => ((P0_ k_ ∨ P2_3_ k_) ∨ w.heap.size ≤ k_) ∧ k_ ≠ gb109)) ?hr ?hp (fun _ hk => hk) ((show ∀ k_, wc.heap.size ≤ k_ → (fun k_ => ((P0_ k_ ∨ P2_3_ k_) ∨ w.heap.size ≤ k_) ∧ k_ ≠ gb109) k_ from fun k_ hk => ⟨(.inr (Nat.le_trans (below_size (by repeat (first | (with_reducible first | exact HB.out | apply below_alloc | apply pw_below_drewN | apply below_drew1 | refine below_set ?_ GE109.out) | exact HB.out))) hk)), Kd.freshB (g := gb109) (o := .cells #[.string a2_0, .int .u16 a2_1, .int .u16 a2_2, .slice A2_3 l2_3.length c2_3, .int .i64 a2_4, .int .i64 a2_5, .int .u64 a2_6] 35 (0, 0)) (by (with_reducible repeat (first | refine blk_drewN ?_ _ | refine blk_drew ?_ | refine blk_alloc ?_ _)); exact BK109.out) k_ hk⟩) _ (Nat.le_refl _)) (Below.refl _ _) (Nat.le_refl _) (by simp) ?_; (case hd => rfl); (case hg => rfl); (case hr => first | (go_simp; done) | (go_simp; rfl)); (case hp => exact (Reps.none _ _)); intro v112 w29 ho30 hb hg_ hnew_; clear hg_ hnew_; (first | rw [← Ny111.out] at ho30 | (simp only [Int.reduceToNat] at ho30; rw [← Ny111.out] at ho30)); have n0_ := Aside0.mk (Kd.V_elder' (by (with_reducible repeat (first | apply Kd.V_alloc | apply Kd.V_drewN | apply Kd.V_drew)); exact HO_0.out) (Kd.N_base ho30) hb); have n1_ := Aside0.mk (Kd.V_elder' (by (with_reducible repeat (first | apply Kd.V_alloc | apply Kd.V_drewN | apply Kd.V_drew)); exact HO_110003.out) (Kd.N_base ho30) hb); have n2_ := Aside0.mk (Kd.N_lower ho30 (below_size (by repeat (first | (with_reducible first | exact HB.out | apply below_alloc | apply pw_below_drewN | apply below_drew1 | refine below_set ?_ GE109.out) | exact HB.out)))); have n3_ := Aside0.mk (blk_below (g := gb109) (o := .cells #[.string a2_0, .int .u16 a2_1, .int .u16 a2_2, .slice A2_3 l2_3.length c2_3, .int .i64 a2_4, .int .i64 a2_5, .int .u64 a2_6] 35 (0, 0)) (by (with_reducible repeat (first | refine blk_drewN ?_ _ | refine blk_drew ?_ | refine blk_alloc ?_ _)); exact BK109.out) hb); have n4_ := Aside0.mk (below_step (by repeat (first | (with_reducible first | exact HB.out | apply below_alloc | apply pw_below_drewN | apply below_drew1 | refine below_set ?_ GE109.out) | exact HB.out)) hb); clear HO_0; clear HO_110003; clear BK109; clear HB; have HO_0 := n0_; have HO_110003 := n1_; have HO113 := n2_; have BK109 := n3_; have HB := n4_; clear n0_ n1_ n2_ n3_ n4_; clear hb ho30) | ((with_reducible refine gate_builtin (b := .append) (xs := #[.tmp 30, .tmp 31]) rfl ?_); (try (refine gate_guard (by rfl) ?_; dsimp only)); at_builtin; refine Kd.N_append_rows k35 (w0 := w) w.heap.size rfl (.tmp 30) (.tmp 31) 29 35 (.agg #[(.string ⟨#[]⟩), (.int .u16 0), (.int .u16 0), (.slice none 0 0), (.int .i64 0), (.int .i64 0), (.int .u64 0)]) 72 rfl Try.underlying29 info35 rfl (by decide) (by omega) v112 y111 l0 _ _ _ (fun k_ => ((P0_ k_ ∨ P2_3_ k_) ∨ w.heap.size ≤ k_) ∧ k_ ≠ gb109) (fun k_ => ((fun k_ => ((P0_ k_ ∨ P2_3_ k_) ∨ w.heap.size ≤ k_) ∧ k_ ≠ gb109)) k_ ∧ some k_ ≠ (v112 : Value).ownBlock) rfl rfl ?aO ?aR (fun _ hk => hk) ?aF ?aB ?aS ?aL ?_; (case aR => exact (by skip; exact Kd.V_F (Kd.V_mono (ok' := (fun k_ => ((fun k_ => ((P0_ k_ ∨ P2_3_ k_) ∨ w.heap.size ≤ k_) ∧ k_ ≠ gb109)) k_ ∧ some k_ ≠ (v112 : Value).ownBlock)) (HO_0.out) (fun k_ hk => ⟨⟨hk.1.1, hk.1.2⟩, hk.2⟩)))); (case aB => exact (by repeat (first | (with_reducible first | exact HB.out | apply below_alloc | apply pw_below_drewN | apply below_drew1 | refine below_set ?_ GE109.out) | exact HB.out))); (case aF => exact (fun k_ hk => ⟨(.inr (Nat.le_trans (below_size (by repeat (first | (with_reducible first | exact HB.out | apply below_alloc | apply pw_below_drewN | apply below_drew1 | refine below_set ?_ GE109.out) | exact HB.out))) hk)), Kd.freshB (g := gb109) (o := .cells #[.string a2_0, .int .u16 a2_1, .int .u16 a2_2, .slice A2_3 l2_3.length c2_3, .int .i64 a2_4, .int .i64 a2_5, .int .u64 a2_6] 35 (0, 0)) (by (with_reducible repeat (first | refine blk_drewN ?_ _ | refine blk_drew ?_ | refine blk_alloc ?_ _)); exact BK109.out) k_ hk⟩)); (case aO => exact (by (with_reducible repeat (first | apply Kd.N_alloc | apply Kd.N_drewN | apply Kd.N_drew)); exact HO113.out)); (case aS => exact (below_size (by repeat (first | (with_reducible first | exact HB.out | apply below_alloc | apply pw_below_drewN | apply below_drew1 | refine below_set ?_ GE109.out) | exact HB.out)))); (case aL => have := LMc15.out; omega); intro v115 w31 ho hb hg hat; rw [← Ny114.out] at ho; have n0_ := Aside0.mk (Kd.V_afterv (ok := (fun k_ => ((P0_ k_ ∨ P2_3_ k_) ∨ w.heap.size ≤ k_) ∧ k_ ≠ gb109)) (by (with_reducible repeat (first | apply Kd.V_alloc | apply Kd.V_drewN | apply Kd.V_drew)); exact HO_0.out) hg hat); have n1_ := Aside0.mk (Kd.V_afterv (ok := (fun k_ => ((P0_ k_ ∨ P2_3_ k_) ∨ w.heap.size ≤ k_) ∧ k_ ≠ gb109)) (by (with_reducible repeat (first | apply Kd.V_alloc | apply Kd.V_drewN | apply Kd.V_drew)); exact HO_110003.out) hg hat); have n2_ := Aside0.mk (blk_grown (g := gb109) (o := .cells #[.string a2_0, .int .u16 a2_1, .int .u16 a2_2, .slice A2_3 l2_3.length c2_3, .int .i64 a2_4, .int .i64 a2_5, .int .u64 a2_6] 35 (0, 0)) (by (with_reducible repeat (first | refine blk_drewN ?_ _ | refine blk_drew ?_ | refine blk_alloc ?_ _)); exact BK109.out) hg (Kd.N_away HO113.out (fun _ hk => hk.2))); have n3_ := Aside0.mk (hb); have n4_ := Aside0.mk (ho); clear HO_0; clear HO_110003; clear BK109; clear HB; clear HO113; have HO_0 := n0_; have HO_110003 := n1_; have BK109 := n2_; have HB := n3_; have HO116 := n4_; clear n0_ n1_ n2_ n3_ n4_; clear ho hb hg hat))
                      have n0_ := Aside0.mk (Kd.V_drew HO_0.out)
                      have n1_ := Aside0.mk (Kd.V_drew HO_110003.out)
                      have n2_ := Aside0.mk (Kd.N_drew HO116.out)
                      have n3_ := Aside0.mk (blk_drew BK109.out)
                      have n4_ := Aside0.mk (below_drew1 HB.out)
                      clear HO_0
                      clear HO_110003
                      clear HO116
                      clear BK109
                      clear HB
                      have HO_0 := n0_
                      have HO_110003 := n1_
                      have HO116 := n2_
                      have BK109 := n3_
                      have HB := n4_
                      clear n0_ n1_ n2_ n3_ n4_
                      have p120 : 0 ≤ (t110 : Int) := of_decide_eq_true (by first | (with_reducible assumption) | assumption)
                      have q120 : t110 < (l0.length : Int) := of_decide_eq_true (by first | (with_reducible assumption) | assumption)
                      obtain ⟨ad120, A120_3, c120_3, e120, hx120_0, hx120_1, hx120_2, hx120_3, hx120_4, hx120_5, hx120_6, hl120_3, hi120_3⟩ := at_T35 (Kd.V_reads' HO_0.out).2.2 t110 p120 q120
                      cases e120
                      obtain ⟨ce120, hce120, hMe120, hcc120⟩ := Kd.V_get HO_0.out z35 t110 p120 (by first | exact q120 | exact of_decide_eq_true (by first | (with_reducible assumption) | assumption) | (have e_ := (Kd.V_reads' HO_0.out).1; omega))
                      obtain ⟨ua120_3, uc120_3, rfl, ul120_3, ge120_3⟩ := k35_openF hMe120
                      have hv120_3 := hcc120 3 _ rfl
                      rw [add_field _ _ 3 (by omega)] at hv120_3
                      replace hv120_3 := Option.some.inj (hv120_3.symm.trans hx120_3)
                      injection hv120_3 with hva_ hvn_ hvc_
                      rw [hva_] at ge120_3
                      rw [hvc_] at ul120_3
                      have HL120_3 := Aside0.mk (show Kd.V k70 70 _ w.heap.size _ _ ((rd_T35 l0 t110).f1) from Kd.V_mk ul120_3 ge120_3)
                      clear hva_ hvn_ hvc_ ge120_3 ul120_3
                      clear hcc120 hce120
                      have HR120_3 := Aside0.mk hi120_3
                      have HC120_3 := Aside0.mk hl120_3
                      clear hi120_3 hl120_3
                      replace p120 := eq_true p120
                      replace q120 := eq_true q120
                      refine start_ (n := 8) (S := fun w' => w'.cell? ⟨gb109, 0, none⟩ = some (.string a2_0) ∧ w'.cell? ⟨gb109, 1, none⟩ = some (.int .u16 a2_1) ∧ w'.cell? ⟨gb109, 2, none⟩ = some (.int .u16 a2_2) ∧ w'.cell? ⟨gb109, 3, none⟩ = some (.slice A2_3 l2_3.length c2_3) ∧ w'.cell? ⟨gb109, 4, none⟩ = some (.int .i64 a2_4) ∧ w'.cell? ⟨gb109, 5, none⟩ = some (.int .i64 a2_5) ∧ w'.cell? ⟨gb109, 6, none⟩ = some (.int .u64 a2_6) ∧ w'.cell? (ad120.add ((t110).toNat * 7)) = some (.string ((rd_T35 l0 t110).f0.f0)) ∧ w'.cell? ⟨(ad120.add ((t110).toNat * 7)).block, (ad120.add ((t110).toNat * 7)).off + 1, none⟩ = some (.int .u16 ((rd_T35 l0 t110).f0.f1)) ∧ w'.cell? ⟨(ad120.add ((t110).toNat * 7)).block, (ad120.add ((t110).toNat * 7)).off + 2, none⟩ = some (.int .u16 ((rd_T35 l0 t110).f0.f2)) ∧ w'.cell? ⟨(ad120.add ((t110).toNat * 7)).block, (ad120.add ((t110).toNat * 7)).off + 3, none⟩ = some (.slice A120_3 ((rd_T35 l0 t110).f1).length c120_3) ∧ w'.cell? ⟨(ad120.add ((t110).toNat * 7)).block, (ad120.add ((t110).toNat * 7)).off + 4, none⟩ = some (.int .i64 ((rd_T35 l0 t110).f2)) ∧ w'.cell? ⟨(ad120.add ((t110).toNat * 7)).block, (ad120.add ((t110).toNat * 7)).off + 5, none⟩ = some (.int .i64 ((rd_T35 l0 t110).f3)) ∧ w'.cell? ⟨(ad120.add ((t110).toNat * 7)).block, (ad120.add ((t110).toNat * 7)).off + 6, none⟩ = some (.int .u64 ((rd_T35 l0 t110).f4))) (ds := []) #[false, false, false, false, false, false, false, false] (by kernel_rfl) rfl rfl ⟨(blk_cell BK109.out 0).trans rfl, (blk_cell BK109.out 1).trans rfl, (blk_cell BK109.out 2).trans rfl, (blk_cell BK109.out 3).trans rfl, (blk_cell BK109.out 4).trans rfl, (blk_cell BK109.out 5).trans rfl, (blk_cell BK109.out 6).trans rfl, hx120_0, hx120_1, hx120_2, hx120_3, hx120_4, hx120_5, hx120_6⟩ (fun hHeld => ?_); refine with_tabW derrickref13_Insert.tab10 derrickref13_Insert.bits10 (fun HT_ HW_ => ?_)
                      generalize w31.drew = w32 at HO_0 HO_110003 HO116 BK109 HB HL120_3 HR120_3 hx120_0 hx120_1 hx120_2 hx120_3 hx120_4 hx120_5 hx120_6 hHeld ⊢
                      refine pure_ (i := 0) (N := some 40) (v := ?_) (a' := ?_) #[true, false, false, false, false, false, false, false] rfl rfl (any_of HT_.out (by kernel_rfl)) (fun _ _ _ h => h) (Or.inl ⟨by rfl, ?_⟩) ?_ ?_
                      rotate_left
                      · intro w'
                        go_simp
                        with_reducible rfl
                      rotate_left
                      · simp only [Act.put, List.setIfInBounds_toArray, List.set_cons_zero, List.set_cons_succ, i64_w, i32_w]
                        rfl
                      refine pure_ (i := 1) (N := some 41) (v := ?_) (a' := ?_) #[true, true, false, false, false, false, false, false] rfl rfl (any_of HT_.out (by kernel_rfl)) (fun _ _ _ h => h) (Or.inl ⟨by rfl, ?_⟩) ?_ ?_
                      rotate_left
                      · intro w'
                        go_simp
                        with_reducible rfl
                      rotate_left
                      · simp only [Act.put, List.setIfInBounds_toArray, List.set_cons_zero, List.set_cons_succ, i64_w, i32_w]
                        rfl
                      refine pure_ (i := 2) (N := some 42) (v := ?_) (a' := ?_) #[true, true, true, false, false, false, false, false] rfl rfl (any_of HT_.out (by kernel_rfl)) (fun _ _ _ h => h) (Or.inl ⟨by rfl, ?_⟩) ?_ ?_
                      rotate_left
                      · intro w'
                        go_simp
                        with_reducible rfl
                      rotate_left
                      · simp only [Act.put, List.setIfInBounds_toArray, List.set_cons_zero, List.set_cons_succ, i64_w, i32_w]
                        rfl
                      refine pure_ (i := 5) (N := some 45) (v := ?_) (a' := ?_) #[true, true, true, false, false, true, false, false] rfl rfl (any_of HT_.out (by kernel_rfl)) (fun _ _ _ h => h) (Or.inl ⟨by rfl, ?_⟩) ?_ ?_
                      rotate_left
                      · intro w'
                        go_simp
                        with_reducible rfl
                      rotate_left
                      · simp only [Act.put, List.setIfInBounds_toArray, List.set_cons_zero, List.set_cons_succ, i64_w, i32_w]
                        rfl
                      refine take_ (i := 3) (N := some 43) (v := ?_) (a' := ?_) #[true, true, true, true, false, true, false, false] rfl rfl (take_ofW HT_.out HW_.out (by kernel_rfl)) (fun _ _ _ h => h) (Or.inl ⟨by rfl, ?_⟩) hHeld ?_ ?_
                      rotate_left
                      · rintro w' ⟨s0, s1, s2, s3, s4, s5, s6, s7, s8, s9, s10, s11, s12, s13⟩
                        go_simp
                        with_reducible rfl
                      rotate_left
                      · simp only [Act.put, List.setIfInBounds_toArray, List.set_cons_zero, List.set_cons_succ, i64_w, i32_w]
                        rfl
                      refine take_ (i := 4) (N := some 44) (v := ?_) (a' := ?_) #[true, true, true, true, true, true, false, false] rfl rfl (take_ofW HT_.out HW_.out (by kernel_rfl)) (fun _ _ _ h => h) (Or.inl ⟨by rfl, ?_⟩) hHeld ?_ ?_
                      rotate_left
                      · rintro w' ⟨s0, s1, s2, s3, s4, s5, s6, s7, s8, s9, s10, s11, s12, s13⟩
                        go_simp
                        with_reducible rfl
                      rotate_left
                      · simp only [Act.put, List.setIfInBounds_toArray, List.set_cons_zero, List.set_cons_succ, i64_w, i32_w]
                        rfl
                      refine one_ (i := 6) (N := some 46) #[true, true, true, true, true, true, true, false] rfl rfl (one_of HT_.out (by kernel_rfl)) (by decide) (fun K hK => ?_)
                      refine goes_ Try.func32 (by kernel_rfl) rfl #[.agg #[.string ((rd_T35 l0 t110).f0.f0), .int .u16 ((rd_T35 l0 t110).f0.f1), .int .u16 ((rd_T35 l0 t110).f0.f2), .slice A120_3 ((rd_T35 l0 t110).f1).length c120_3, .int .i64 ((rd_T35 l0 t110).f2), .int .i64 ((rd_T35 l0 t110).f3), .int .u64 ((rd_T35 l0 t110).f4)], .agg #[.string a2_0, .int .u16 a2_1, .int .u16 a2_2, .slice A2_3 l2_3.length c2_3, .int .i64 a2_4, .int .i64 a2_5, .int .u64 a2_6], .int .u64 a3] (by rfl) rfl rfl (by (try simp only [List.map_toArray, List.map_cons, List.map_nil]); first | done | rfl | (simp only [List.length_drop, List.length_take]; rfl)) ?_
                      with_reducible refine (derrickref08_Beats.calls ((rd_T35 l0 t110).f0.f0) ((rd_T35 l0 t110).f0.f1) ((rd_T35 l0 t110).f0.f2) _ _ ((rd_T35 l0 t110).f1) ((rd_T35 l0 t110).f2) ((rd_T35 l0 t110).f3) ((rd_T35 l0 t110).f4) a2_0 a2_1 a2_2 _ _ l2_3 a2_4 a2_5 a2_6 a3 true _ ?side1 ?side2 ?side3 ?side4 A25.out).mono ?_
                      (case side1 => repeat (first | exact (by repeat (first | (with_reducible exact HR120_3.out) | (with_reducible refine Kd.C_alloc ?_ _) | (with_reducible refine Kd.C_drewN ?_ _) | (with_reducible refine Kd.C_drew ?_) | exact HR120_3.out)) | (with_reducible refine Kd.C_alloc ?_ _) | (with_reducible refine Kd.C_drewN ?_ _) | (with_reducible refine Kd.C_drew ?_)))
                      (case side2 => exact HC120_3.out)
                      (case side3 => repeat (first | exact (Kd.V_reads' HO_110003.out).2.2 | (with_reducible refine Kd.C_alloc ?_ _) | (with_reducible refine Kd.C_drewN ?_ _) | (with_reducible refine Kd.C_drew ?_)))
                      (case side4 => exact (Kd.V_reads' HO_110003.out).2.1)
                      rintro e w33 ⟨rfl, hb⟩
                      have HS7_ := (hb.cell (World.block_lt_of_cell? _ _ (hHeld.2.2.2.2.2.2.2.1))).trans (hHeld.2.2.2.2.2.2.2.1)
                      have HS8_ := (hb.cell (World.block_lt_of_cell? _ _ (hHeld.2.2.2.2.2.2.2.2.1))).trans (hHeld.2.2.2.2.2.2.2.2.1)
                      have HS9_ := (hb.cell (World.block_lt_of_cell? _ _ (hHeld.2.2.2.2.2.2.2.2.2.1))).trans (hHeld.2.2.2.2.2.2.2.2.2.1)
                      have HS10_ := (hb.cell (World.block_lt_of_cell? _ _ (hHeld.2.2.2.2.2.2.2.2.2.2.1))).trans (hHeld.2.2.2.2.2.2.2.2.2.2.1)
                      have HS11_ := (hb.cell (World.block_lt_of_cell? _ _ (hHeld.2.2.2.2.2.2.2.2.2.2.2.1))).trans (hHeld.2.2.2.2.2.2.2.2.2.2.2.1)
                      have HS12_ := (hb.cell (World.block_lt_of_cell? _ _ (hHeld.2.2.2.2.2.2.2.2.2.2.2.2.1))).trans (hHeld.2.2.2.2.2.2.2.2.2.2.2.2.1)
                      have HS13_ := (hb.cell (World.block_lt_of_cell? _ _ (hHeld.2.2.2.2.2.2.2.2.2.2.2.2.2))).trans (hHeld.2.2.2.2.2.2.2.2.2.2.2.2.2)
                      refine ⟨_, rfl, ?_⟩
                      have n0_ := Aside0.mk (Kd.V_below (by (with_reducible repeat (first | apply Kd.V_alloc | apply Kd.V_drewN | apply Kd.V_drew)); exact HO_0.out) hb)
                      have n1_ := Aside0.mk (Kd.V_below (by (with_reducible repeat (first | apply Kd.V_alloc | apply Kd.V_drewN | apply Kd.V_drew)); exact HO_110003.out) hb)
                      have n2_ := Aside0.mk (Kd.N_below (by (with_reducible repeat (first | apply Kd.N_alloc | apply Kd.N_drewN | apply Kd.N_drew)); exact HO116.out) hb)
                      have n3_ := Aside0.mk (Kd.V_below (by (with_reducible repeat (first | apply Kd.V_alloc | apply Kd.V_drewN | apply Kd.V_drew)); exact HL120_3.out) hb)
                      have n4_ := Aside0.mk (blk_below (g := gb109) (o := .cells #[.string a2_0, .int .u16 a2_1, .int .u16 a2_2, .slice A2_3 l2_3.length c2_3, .int .i64 a2_4, .int .i64 a2_5, .int .u64 a2_6] 35 (0, 0)) (by (with_reducible repeat (first | refine blk_drewN ?_ _ | refine blk_drew ?_ | refine blk_alloc ?_ _)); exact BK109.out) hb)
                      have n5_ := Aside0.mk (Kd.C_below (by repeat (first | (with_reducible exact HR120_3.out) | (with_reducible refine Kd.C_alloc ?_ _) | (with_reducible refine Kd.C_drewN ?_ _) | (with_reducible refine Kd.C_drew ?_) | exact HR120_3.out)) hb)
                      have n6_ := Aside0.mk (below_step (by repeat (first | (with_reducible first | exact HB.out | apply below_alloc | apply pw_below_drewN | apply below_drew1 | refine below_set ?_ GE109.out) | exact HB.out)) hb)
                      clear HO_0
                      clear HO_110003
                      clear HO116
                      clear HL120_3
                      clear BK109
                      clear HR120_3
                      clear HB
                      have HO_0 := n0_
                      have HO_110003 := n1_
                      have HO116 := n2_
                      have HL120_3 := n3_
                      have BK109 := n4_
                      have HR120_3 := n5_
                      have HB := n6_
                      clear n0_ n1_ n2_ n3_ n4_ n5_ n6_
                      (try clear hb)
                      (try clear hb2)
                      (try clear hk)
                      (try clear hi)
                      refine hK.out _ _ ⟨(blk_cell BK109.out 0).trans rfl, (blk_cell BK109.out 1).trans rfl, (blk_cell BK109.out 2).trans rfl, (blk_cell BK109.out 3).trans rfl, (blk_cell BK109.out 4).trans rfl, (blk_cell BK109.out 5).trans rfl, (blk_cell BK109.out 6).trans rfl, HS7_, HS8_, HS9_, HS10_, HS11_, HS12_, HS13_⟩ (fun hHeld => ?_)
                      clear hK K
                      refine norm_ (a' := ?_) ?_ ?_
                      rotate_left
                      · show Act.put _ (some 46) _ = _
                        simp only [Act.put, List.setIfInBounds_toArray, List.set_cons_zero, List.set_cons_succ, i64_w, i32_w]
                        rfl
                      refine pure_ (i := 7) (N := some 47) (v := ?_) (a' := ?_) #[true, true, true, true, true, true, true, true] rfl rfl (any_of HT_.out (by kernel_rfl)) (fun _ _ _ h => h) (Or.inl ⟨by rfl, ?_⟩) ?_ ?_
                      rotate_left
                      · intro w'
                        go_simp
                        with_reducible rfl
                      rotate_left
                      · simp only [Act.put, List.setIfInBounds_toArray, List.set_cons_zero, List.set_cons_succ, i64_w, i32_w]
                        rfl
                      refine done_ (done_of HT_.out (by kernel_rfl)) ?_
                      have hcz34_0 : w33.cell? ⟨gb109, 0, none⟩ = some (.string a2_0) := (blk_cell BK109.out 0).trans rfl
                      have hcz34_1 : w33.cell? ⟨gb109, 1, none⟩ = some (.int .u16 a2_1) := (blk_cell BK109.out 1).trans rfl
                      have hcz34_2 : w33.cell? ⟨gb109, 2, none⟩ = some (.int .u16 a2_2) := (blk_cell BK109.out 2).trans rfl
                      have hcz34_3 : w33.cell? ⟨gb109, 3, none⟩ = some (.slice A2_3 l2_3.length c2_3) := (blk_cell BK109.out 3).trans rfl
                      have hcz34_4 : w33.cell? ⟨gb109, 4, none⟩ = some (.int .i64 a2_4) := (blk_cell BK109.out 4).trans rfl
                      have hcz34_5 : w33.cell? ⟨gb109, 5, none⟩ = some (.int .i64 a2_5) := (blk_cell BK109.out 5).trans rfl
                      have hcz34_6 : w33.cell? ⟨gb109, 6, none⟩ = some (.int .u64 a2_6) := (blk_cell BK109.out 6).trans rfl
                      have hfz34_0 := blk_frozen BK109.out 0
                      have hfz34_1 := blk_frozen BK109.out 1
                      have hfz34_2 := blk_frozen BK109.out 2
                      have hfz34_3 := blk_frozen BK109.out 3
                      have hfz34_4 := blk_frozen BK109.out 4
                      have hfz34_5 := blk_frozen BK109.out 5
                      have hfz34_6 := blk_frozen BK109.out 6
                      have p28 : 0 ≤ (t110 : Int) := of_decide_eq_true (by first | (with_reducible assumption) | assumption)
                      have q28 : (t110 : Int) < ((y114.length : Int) : Int) := of_decide_eq_true (by first | (with_reducible assumption) | assumption)
                      obtain ⟨go28, co28, eo28, gb28, gl28, cl28, HG28⟩ := Kd.N_form HO116.out (by omega)
                      (first | cases eo28 | (injection eo28 with ea_ en_ ec_; (first | subst ea_ | (injection ea_ with ea_; subst ea_)); subst ec_; clear en_))
                      have GB28 := Aside0.mk gb28
                      have GG28 := Aside0.mk HG28
                      clear gb28 gl28 HG28
                      obtain ⟨ce28, hcl28, hM28, hcc28, hfr28⟩ := Kd.N_elem HO116.out z35 (t110 : Int) p28 q28
                      obtain ⟨ua28_3, uc28_3, rfl, ul28_3, ge28_3⟩ := k35_openF hM28
                      have hx28_0 : w33.cell? ⟨go28, (t110 : Int).toNat * 7, none⟩ = some (.string ((rd_T35 y114 t110).f0.f0)) := hcc28 0 _ rfl
                      have hx28_1 : w33.cell? ⟨go28, (t110 : Int).toNat * 7 + 1, none⟩ = some (.int .u16 ((rd_T35 y114 t110).f0.f1)) := hcc28 1 _ rfl
                      have hx28_2 : w33.cell? ⟨go28, (t110 : Int).toNat * 7 + 2, none⟩ = some (.int .u16 ((rd_T35 y114 t110).f0.f2)) := hcc28 2 _ rfl
                      have hx28_3 : w33.cell? ⟨go28, (t110 : Int).toNat * 7 + 3, none⟩ = some (.slice ua28_3 ((rd_T35 y114 t110).f1).length uc28_3) := hcc28 3 _ rfl
                      have hx28_4 : w33.cell? ⟨go28, (t110 : Int).toNat * 7 + 4, none⟩ = some (.int .i64 ((rd_T35 y114 t110).f2)) := hcc28 4 _ rfl
                      have hx28_5 : w33.cell? ⟨go28, (t110 : Int).toNat * 7 + 5, none⟩ = some (.int .i64 ((rd_T35 y114 t110).f3)) := hcc28 5 _ rfl
                      have hx28_6 : w33.cell? ⟨go28, (t110 : Int).toNat * 7 + 6, none⟩ = some (.int .u64 ((rd_T35 y114 t110).f4)) := hcc28 6 _ rfl
                      have hf28_0 : w33.frozen? ⟨go28, (t110 : Int).toNat * 7, none⟩ = false := hfr28 0
                      have hf28_1 : w33.frozen? ⟨go28, (t110 : Int).toNat * 7 + 1, none⟩ = false := hfr28 1
                      have hf28_2 : w33.frozen? ⟨go28, (t110 : Int).toNat * 7 + 2, none⟩ = false := hfr28 2
                      have hf28_3 : w33.frozen? ⟨go28, (t110 : Int).toNat * 7 + 3, none⟩ = false := hfr28 3
                      have hf28_4 : w33.frozen? ⟨go28, (t110 : Int).toNat * 7 + 4, none⟩ = false := hfr28 4
                      have hf28_5 : w33.frozen? ⟨go28, (t110 : Int).toNat * 7 + 5, none⟩ = false := hfr28 5
                      have hf28_6 : w33.frozen? ⟨go28, (t110 : Int).toNat * 7 + 6, none⟩ = false := hfr28 6
                      clear hcl28 hcc28 hfr28 hM28
                      replace p28 := eq_true p28
                      replace q28 := eq_true q28
                      have HX35 := Aside0.mk (show Kd.N k35 35 w33 w.heap.size (fun k_ => ((P0_ k_ ∨ P2_3_ k_) ∨ w.heap.size ≤ k_) ∧ k_ ≠ gb109) (.slice (some ⟨go28, 0, none⟩) y114.length co28) y114 from (by (with_reducible repeat (first | apply Kd.N_alloc | apply Kd.N_drewN | apply Kd.N_drew)); exact HO116.out))
                      obtain ⟨ce35, hcl35, hM35, hcc35, hfr35⟩ := Kd.N_elem HX35.out z35 (t110 : Int) (of_decide_eq_true (by first | (with_reducible assumption) | assumption)) (by have h_ : (t110 : Int) < ((y114.length : Int) : Int) := of_decide_eq_true (by first | (with_reducible assumption) | assumption); first | exact h_ | (have e_ := (Kd.N_reads' HO116.out).1; omega) | simpa using h_)
                      obtain ⟨ua35_3, uc35_3, rfl, ul35_3, ge35_3⟩ := k35_openF hM35
                      have HP35 := Kd.N_seg HX35.out (t110 : Int) (of_decide_eq_true (by first | (with_reducible assumption) | assumption)) (by have h_ : (t110 : Int) < ((y114.length : Int) : Int) := of_decide_eq_true (by first | (with_reducible assumption) | assumption); first | exact h_ | (have e_ := (Kd.N_reads' HO116.out).1; omega) | simpa using h_) (seg := [.string a2_0, .int .u16 a2_1, .int .u16 a2_2, .slice A2_3 l2_3.length c2_3, .int .i64 a2_4, .int .i64 a2_5, .int .u64 a2_6]) (j := 0) hcl35 hcc35 (show 7 ≤ 7 from by decide) (x' := (⟨(⟨a2_0, a2_1, a2_2⟩ : S25), l2_3, a2_4, a2_5, a2_6⟩ : S35)) (k35_mkF _ _ (⟨(⟨a2_0, a2_1, a2_2⟩ : S25), l2_3, a2_4, a2_5, a2_6⟩ : S35) (Kd.V_reads' (Kd.V_mono (ok' := (fun k_ => ((fun k_ => ((P0_ k_ ∨ P2_3_ k_) ∨ w.heap.size ≤ k_) ∧ k_ ≠ gb109)) k_ ∧ k_ ≠ go28)) (HO_110003.out) (fun k_ hk => ⟨⟨hk.1.1, hk.1.2⟩, fun e_ => (hk.2) (by rw [e_]; rfl)⟩))).2.1 (Kd.V_F (Kd.V_mono (ok' := (fun k_ => ((fun k_ => ((P0_ k_ ∨ P2_3_ k_) ∨ w.heap.size ≤ k_) ∧ k_ ≠ gb109)) k_ ∧ k_ ≠ go28)) (HO_110003.out) (fun k_ hk => ⟨⟨hk.1.1, hk.1.2⟩, fun e_ => (hk.2) (by rw [e_]; rfl)⟩)))) (fun _ hk => hk)
                      have hx35_0 := hcc35 0 _ rfl
                      (try simp only [show (k35).sz = 7 from rfl, Nat.mul_one, Nat.add_zero] at hx35_0)
                      have hf35_0 := hfr35 0
                      (try simp only [show (k35).sz = 7 from rfl, Nat.mul_one, Nat.add_zero] at hf35_0)
                      have hx35_1 := hcc35 1 _ rfl
                      (try simp only [show (k35).sz = 7 from rfl, Nat.mul_one, Nat.add_zero] at hx35_1)
                      have hf35_1 := hfr35 1
                      (try simp only [show (k35).sz = 7 from rfl, Nat.mul_one, Nat.add_zero] at hf35_1)
                      have hx35_2 := hcc35 2 _ rfl
                      (try simp only [show (k35).sz = 7 from rfl, Nat.mul_one, Nat.add_zero] at hx35_2)
                      have hf35_2 := hfr35 2
                      (try simp only [show (k35).sz = 7 from rfl, Nat.mul_one, Nat.add_zero] at hf35_2)
                      have hx35_3 := hcc35 3 _ rfl
                      (try simp only [show (k35).sz = 7 from rfl, Nat.mul_one, Nat.add_zero] at hx35_3)
                      have hf35_3 := hfr35 3
                      (try simp only [show (k35).sz = 7 from rfl, Nat.mul_one, Nat.add_zero] at hf35_3)
                      have hx35_4 := hcc35 4 _ rfl
                      (try simp only [show (k35).sz = 7 from rfl, Nat.mul_one, Nat.add_zero] at hx35_4)
                      have hf35_4 := hfr35 4
                      (try simp only [show (k35).sz = 7 from rfl, Nat.mul_one, Nat.add_zero] at hf35_4)
                      have hx35_5 := hcc35 5 _ rfl
                      (try simp only [show (k35).sz = 7 from rfl, Nat.mul_one, Nat.add_zero] at hx35_5)
                      have hf35_5 := hfr35 5
                      (try simp only [show (k35).sz = 7 from rfl, Nat.mul_one, Nat.add_zero] at hf35_5)
                      have hx35_6 := hcc35 6 _ rfl
                      (try simp only [show (k35).sz = 7 from rfl, Nat.mul_one, Nat.add_zero] at hx35_6)
                      have hf35_6 := hfr35 6
                      (try simp only [show (k35).sz = 7 from rfl, Nat.mul_one, Nat.add_zero] at hf35_6)
                      clear hcl35 hcc35 hfr35 hM35
                      try go_wp2_with (first | ((with_reducible refine gate_store (t := 35) (p := 52) rfl ?_); refine store_event (t := 35) (p := 52) (v := ?vo_w36) (w1 := (((((((w33.setCell ⟨go28, (t110 : Int).toNat * 7, none⟩ (.string a2_0)).setCell ⟨go28, (t110 : Int).toNat * 7 + 1, none⟩ (.int .u16 a2_1)).setCell ⟨go28, (t110 : Int).toNat * 7 + 2, none⟩ (.int .u16 a2_2)).setCell ⟨go28, (t110 : Int).toNat * 7 + 3, none⟩ (.slice A2_3 l2_3.length c2_3)).setCell ⟨go28, (t110 : Int).toNat * 7 + 4, none⟩ (.int .i64 a2_4)).setCell ⟨go28, (t110 : Int).toNat * 7 + 5, none⟩ (.int .i64 a2_5)).setCell ⟨go28, (t110 : Int).toNat * 7 + 6, none⟩ (.int .u64 a2_6))) ?hg ?ho ?hn ?hr ?_; (case ho => rfl); (case hg => rfl); (case hn => rfl); (case hr => first | (go_simp; done) | (go_simp; rfl)); intro w36 hw; have hg : w33.grownBy w36 (some go28) := (by rw [hw]; exact HP35.2); have hp_ : Kd.N k35 35 w36 w.heap.size (fun k_ => ((P0_ k_ ∨ P2_3_ k_) ∨ w.heap.size ≤ k_) ∧ k_ ≠ gb109) (.slice (some ⟨go28, 0, none⟩) y114.length co28) y122 := (by rw [hw, Ny122.out]; exact HP35.1); clear HP35; have n0_ := Aside0.mk (Kd.V_afterv (v := (.slice (some ⟨go28, 0, none⟩) y114.length co28)) (v1 := (.slice (some ⟨go28, 0, none⟩) y114.length co28)) (ok := (fun k_ => ((P0_ k_ ∨ P2_3_ k_) ∨ w.heap.size ≤ k_) ∧ k_ ≠ gb109)) (by (with_reducible repeat (first | apply Kd.V_alloc | apply Kd.V_drewN | apply Kd.V_drew)); exact HO_0.out) hg (.inl rfl)); have n1_ := Aside0.mk (Kd.V_afterv (v := (.slice (some ⟨go28, 0, none⟩) y114.length co28)) (v1 := (.slice (some ⟨go28, 0, none⟩) y114.length co28)) (ok := (fun k_ => ((P0_ k_ ∨ P2_3_ k_) ∨ w.heap.size ≤ k_) ∧ k_ ≠ gb109)) (by (with_reducible repeat (first | apply Kd.V_alloc | apply Kd.V_drewN | apply Kd.V_drew)); exact HO_110003.out) hg (.inl rfl)); have n2_ := Aside0.mk (blk_grown (g := gb109) (o := .cells #[.string a2_0, .int .u16 a2_1, .int .u16 a2_2, .slice A2_3 l2_3.length c2_3, .int .i64 a2_4, .int .i64 a2_5, .int .u64 a2_6] 35 (0, 0)) (by (with_reducible repeat (first | refine blk_drewN ?_ _ | refine blk_drew ?_ | refine blk_alloc ?_ _)); exact BK109.out) hg (Kd.N_away HO116.out (fun _ hk => hk.2))); have n3_ := Aside0.mk (hp_); have n4_ := Aside0.mk (Kd.V_afterv (v := (.slice (some ⟨go28, 0, none⟩) y114.length co28)) (v1 := (.slice (some ⟨go28, 0, none⟩) y114.length co28)) (ok := (fun k_ => ((P0_ k_ ∨ P2_3_ k_) ∨ w.heap.size ≤ k_) ∧ k_ ≠ gb109)) (by (with_reducible repeat (first | apply Kd.V_alloc | apply Kd.V_drewN | apply Kd.V_drew)); exact HL120_3.out) hg (.inl rfl)); have n5_ := Aside0.mk ((by rw [hw]; exact below_set (below_set (below_set (below_set (below_set (below_set (below_set (HB.out) GB28.out) GB28.out) GB28.out) GB28.out) GB28.out) GB28.out) GB28.out : Below w.heap.size w w36)); clear HO_0; clear HO_110003; clear BK109; clear HO116; clear HL120_3; clear HB; have HO_0 := n0_; have HO_110003 := n1_; have BK109 := n2_; have HO116 := n3_; have HL120_3 := n4_; have HB := n5_; clear n0_ n1_ n2_ n3_ n4_ n5_; clear hg hw hp_))
                      go_ret2
                      exact ⟨_, by first | rfl | (simp [errW_none, errW_some] <;> rfl) | (simp [*, errW_none, errW_some] <;> rfl), Kd.N_V (by (with_reducible repeat (first | apply Kd.N_alloc | apply Kd.N_drewN | apply Kd.N_drew)); exact Kd.N_mono HO116.out (fun _ hk => hk.1)), by repeat (first | (with_reducible first | exact HB.out | apply below_alloc | apply pw_below_drewN | apply below_drew1 | refine below_set ?_ GE109.out) | exact HB.out)⟩
                    · rw [if_neg c27] at H
                      exact absurd H (by simp)
                  · replace c26 := Bool.eq_false_iff.mpr c26
                    subst c26
                    have H1 : (some (l0, 7)) = some (r1, r2) := by rw [if_neg (show ¬ (false = true) by decide)] at H; exact H
                    clear H
                    have H := H1
                    clear H1
                    simp only [Option.some.injEq, Prod.mk.injEq] at H
                    obtain ⟨rfl, rfl⟩ := H
                    try go_wp2_with (first | ((with_reducible refine gate_dst (N := 30) rfl ?_); (try (refine gate_guard (by rfl) ?_; dsimp only)); refine Kd.N_lit k35 _ 35 ?hg (N' := 30) ?hd (xs := ([] : List (S35))) (inner := []) (ok := (fun k_ => ((P0_ k_ ∨ P2_3_ k_) ∨ w.heap.size ≤ k_) ∧ k_ ≠ gb109)) (okp := (fun k_ => ((P0_ k_ ∨ P2_3_ k_) ∨ w.heap.size ≤ k_) ∧ k_ ≠ gb109)) ?hr ?hp (fun _ hk => hk) ((show ∀ k_, wc.heap.size ≤ k_ → (fun k_ => ((P0_ k_ ∨ P2_3_ k_) ∨ w.heap.size ≤ k_) ∧ k_ ≠ gb109) k_ from fun k_ hk => ⟨(.inr (Nat.le_trans (below_size (by repeat (first | (with_reducible first | exact HB.out | apply below_alloc | apply pw_below_drewN | apply below_drew1 | refine below_set ?_ GE109.out) | exact HB.out))) hk)), Kd.freshB (g := gb109) (o := .cells #[.string a2_0, .int .u16 a2_1, .int .u16 a2_2, .slice A2_3 l2_3.length c2_3, .int .i64 a2_4, .int .i64 a2_5, .int .u64 a2_6] 35 (0, 0)) (by (with_reducible repeat (first | refine blk_drewN ?_ _ | refine blk_drew ?_ | refine blk_alloc ?_ _)); exact BK109.out) k_ hk⟩) _ (Nat.le_refl _)) (Below.refl _ _) (Nat.le_refl _) (by simp) ?_; (case hd => rfl); (case hg => rfl); (case hr => first | (go_simp; done) | (go_simp; rfl)); (case hp => exact (Reps.none _ _)); intro v112 w37 ho38 hb hg_ hnew_; clear hg_ hnew_; (first | rw [← Ny111.out] at ho38 | (simp only [Int.reduceToNat] at ho38; rw [← Ny111.out] at ho38)); have n0_ := Aside0.mk (Kd.V_elder' (by (with_reducible repeat (first | apply Kd.V_alloc | apply Kd.V_drewN | apply Kd.V_drew)); exact HO_0.out) (Kd.N_base ho38) hb); have n1_ := Aside0.mk (Kd.V_elder' (by (with_reducible repeat (first | apply Kd.V_alloc | apply Kd.V_drewN | apply Kd.V_drew)); exact HO_110003.out) (Kd.N_base ho38) hb); have n2_ := Aside0.mk (Kd.N_lower ho38 (below_size (by repeat (first | (with_reducible first | exact HB.out | apply below_alloc | apply pw_below_drewN | apply below_drew1 | refine below_set ?_ GE109.out) | exact HB.out)))); have n3_ := Aside0.mk (blk_below (g := gb109) (o := .cells #[.string a2_0, .int .u16 a2_1, .int .u16 a2_2, .slice A2_3 l2_3.length c2_3, .int .i64 a2_4, .int .i64 a2_5, .int .u64 a2_6] 35 (0, 0)) (by (with_reducible repeat (first | refine blk_drewN ?_ _ | refine blk_drew ?_ | refine blk_alloc ?_ _)); exact BK109.out) hb); have n4_ := Aside0.mk (below_step (by repeat (first | (with_reducible first | exact HB.out | apply below_alloc | apply pw_below_drewN | apply below_drew1 | refine below_set ?_ GE109.out) | exact HB.out)) hb); clear HO_0; clear HO_110003; clear BK109; clear HB; have HO_0 := n0_; have HO_110003 := n1_; have HO113 := n2_; have BK109 := n3_; have HB := n4_; clear n0_ n1_ n2_ n3_ n4_; clear hb ho38) | ((with_reducible refine gate_builtin (b := .append) (xs := #[.tmp 30, .tmp 31]) rfl ?_); (try (refine gate_guard (by rfl) ?_; dsimp only)); at_builtin; refine Kd.N_append_rows k35 (w0 := w) w.heap.size rfl (.tmp 30) (.tmp 31) 29 35 (.agg #[(.string ⟨#[]⟩), (.int .u16 0), (.int .u16 0), (.slice none 0 0), (.int .i64 0), (.int .i64 0), (.int .u64 0)]) 72 rfl Try.underlying29 info35 rfl (by decide) (by omega) v112 y111 l0 _ _ _ (fun k_ => ((P0_ k_ ∨ P2_3_ k_) ∨ w.heap.size ≤ k_) ∧ k_ ≠ gb109) (fun k_ => ((fun k_ => ((P0_ k_ ∨ P2_3_ k_) ∨ w.heap.size ≤ k_) ∧ k_ ≠ gb109)) k_ ∧ some k_ ≠ (v112 : Value).ownBlock) rfl rfl ?aO ?aR (fun _ hk => hk) ?aF ?aB ?aS ?aL ?_; (case aR => exact (by skip; exact Kd.V_F (Kd.V_mono (ok' := (fun k_ => ((fun k_ => ((P0_ k_ ∨ P2_3_ k_) ∨ w.heap.size ≤ k_) ∧ k_ ≠ gb109)) k_ ∧ some k_ ≠ (v112 : Value).ownBlock)) (HO_0.out) (fun k_ hk => ⟨⟨hk.1.1, hk.1.2⟩, hk.2⟩)))); (case aB => exact (by repeat (first | (with_reducible first | exact HB.out | apply below_alloc | apply pw_below_drewN | apply below_drew1 | refine below_set ?_ GE109.out) | exact HB.out))); (case aF => exact (fun k_ hk => ⟨(.inr (Nat.le_trans (below_size (by repeat (first | (with_reducible first | exact HB.out | apply below_alloc | apply pw_below_drewN | apply below_drew1 | refine below_set ?_ GE109.out) | exact HB.out))) hk)), Kd.freshB (g := gb109) (o := .cells #[.string a2_0, .int .u16 a2_1, .int .u16 a2_2, .slice A2_3 l2_3.length c2_3, .int .i64 a2_4, .int .i64 a2_5, .int .u64 a2_6] 35 (0, 0)) (by (with_reducible repeat (first | refine blk_drewN ?_ _ | refine blk_drew ?_ | refine blk_alloc ?_ _)); exact BK109.out) k_ hk⟩)); (case aO => exact (by (with_reducible repeat (first | apply Kd.N_alloc | apply Kd.N_drewN | apply Kd.N_drew)); exact HO113.out)); (case aS => exact (below_size (by repeat (first | (with_reducible first | exact HB.out | apply below_alloc | apply pw_below_drewN | apply below_drew1 | refine below_set ?_ GE109.out) | exact HB.out)))); (case aL => have := LMc15.out; omega); intro v115 w39 ho hb hg hat; rw [← Ny114.out] at ho; have n0_ := Aside0.mk (Kd.V_afterv (ok := (fun k_ => ((P0_ k_ ∨ P2_3_ k_) ∨ w.heap.size ≤ k_) ∧ k_ ≠ gb109)) (by (with_reducible repeat (first | apply Kd.V_alloc | apply Kd.V_drewN | apply Kd.V_drew)); exact HO_0.out) hg hat); have n1_ := Aside0.mk (Kd.V_afterv (ok := (fun k_ => ((P0_ k_ ∨ P2_3_ k_) ∨ w.heap.size ≤ k_) ∧ k_ ≠ gb109)) (by (with_reducible repeat (first | apply Kd.V_alloc | apply Kd.V_drewN | apply Kd.V_drew)); exact HO_110003.out) hg hat); have n2_ := Aside0.mk (blk_grown (g := gb109) (o := .cells #[.string a2_0, .int .u16 a2_1, .int .u16 a2_2, .slice A2_3 l2_3.length c2_3, .int .i64 a2_4, .int .i64 a2_5, .int .u64 a2_6] 35 (0, 0)) (by (with_reducible repeat (first | refine blk_drewN ?_ _ | refine blk_drew ?_ | refine blk_alloc ?_ _)); exact BK109.out) hg (Kd.N_away HO113.out (fun _ hk => hk.2))); have n3_ := Aside0.mk (hb); have n4_ := Aside0.mk (ho); clear HO_0; clear HO_110003; clear BK109; clear HB; clear HO113; have HO_0 := n0_; have HO_110003 := n1_; have BK109 := n2_; have HB := n3_; have HO116 := n4_; clear n0_ n1_ n2_ n3_ n4_; clear ho hb hg hat))
                    have n0_ := Aside0.mk (Kd.V_drew HO_0.out)
                    have n1_ := Aside0.mk (Kd.V_drew HO_110003.out)
                    have n2_ := Aside0.mk (Kd.N_drew HO116.out)
                    have n3_ := Aside0.mk (blk_drew BK109.out)
                    have n4_ := Aside0.mk (below_drew1 HB.out)
                    clear HO_0
                    clear HO_110003
                    clear HO116
                    clear BK109
                    clear HB
                    have HO_0 := n0_
                    have HO_110003 := n1_
                    have HO116 := n2_
                    have BK109 := n3_
                    have HB := n4_
                    clear n0_ n1_ n2_ n3_ n4_
                    have p120 : 0 ≤ (t110 : Int) := of_decide_eq_true (by first | (with_reducible assumption) | assumption)
                    have q120 : t110 < (l0.length : Int) := of_decide_eq_true (by first | (with_reducible assumption) | assumption)
                    obtain ⟨ad120, A120_3, c120_3, e120, hx120_0, hx120_1, hx120_2, hx120_3, hx120_4, hx120_5, hx120_6, hl120_3, hi120_3⟩ := at_T35 (Kd.V_reads' HO_0.out).2.2 t110 p120 q120
                    cases e120
                    obtain ⟨ce120, hce120, hMe120, hcc120⟩ := Kd.V_get HO_0.out z35 t110 p120 (by first | exact q120 | exact of_decide_eq_true (by first | (with_reducible assumption) | assumption) | (have e_ := (Kd.V_reads' HO_0.out).1; omega))
                    obtain ⟨ua120_3, uc120_3, rfl, ul120_3, ge120_3⟩ := k35_openF hMe120
                    have hv120_3 := hcc120 3 _ rfl
                    rw [add_field _ _ 3 (by omega)] at hv120_3
                    replace hv120_3 := Option.some.inj (hv120_3.symm.trans hx120_3)
                    injection hv120_3 with hva_ hvn_ hvc_
                    rw [hva_] at ge120_3
                    rw [hvc_] at ul120_3
                    have HL120_3 := Aside0.mk (show Kd.V k70 70 _ w.heap.size _ _ ((rd_T35 l0 t110).f1) from Kd.V_mk ul120_3 ge120_3)
                    clear hva_ hvn_ hvc_ ge120_3 ul120_3
                    clear hcc120 hce120
                    have HR120_3 := Aside0.mk hi120_3
                    have HC120_3 := Aside0.mk hl120_3
                    clear hi120_3 hl120_3
                    replace p120 := eq_true p120
                    replace q120 := eq_true q120
                    refine start_ (n := 8) (S := fun w' => w'.cell? ⟨gb109, 0, none⟩ = some (.string a2_0) ∧ w'.cell? ⟨gb109, 1, none⟩ = some (.int .u16 a2_1) ∧ w'.cell? ⟨gb109, 2, none⟩ = some (.int .u16 a2_2) ∧ w'.cell? ⟨gb109, 3, none⟩ = some (.slice A2_3 l2_3.length c2_3) ∧ w'.cell? ⟨gb109, 4, none⟩ = some (.int .i64 a2_4) ∧ w'.cell? ⟨gb109, 5, none⟩ = some (.int .i64 a2_5) ∧ w'.cell? ⟨gb109, 6, none⟩ = some (.int .u64 a2_6) ∧ w'.cell? (ad120.add ((t110).toNat * 7)) = some (.string ((rd_T35 l0 t110).f0.f0)) ∧ w'.cell? ⟨(ad120.add ((t110).toNat * 7)).block, (ad120.add ((t110).toNat * 7)).off + 1, none⟩ = some (.int .u16 ((rd_T35 l0 t110).f0.f1)) ∧ w'.cell? ⟨(ad120.add ((t110).toNat * 7)).block, (ad120.add ((t110).toNat * 7)).off + 2, none⟩ = some (.int .u16 ((rd_T35 l0 t110).f0.f2)) ∧ w'.cell? ⟨(ad120.add ((t110).toNat * 7)).block, (ad120.add ((t110).toNat * 7)).off + 3, none⟩ = some (.slice A120_3 ((rd_T35 l0 t110).f1).length c120_3) ∧ w'.cell? ⟨(ad120.add ((t110).toNat * 7)).block, (ad120.add ((t110).toNat * 7)).off + 4, none⟩ = some (.int .i64 ((rd_T35 l0 t110).f2)) ∧ w'.cell? ⟨(ad120.add ((t110).toNat * 7)).block, (ad120.add ((t110).toNat * 7)).off + 5, none⟩ = some (.int .i64 ((rd_T35 l0 t110).f3)) ∧ w'.cell? ⟨(ad120.add ((t110).toNat * 7)).block, (ad120.add ((t110).toNat * 7)).off + 6, none⟩ = some (.int .u64 ((rd_T35 l0 t110).f4))) (ds := []) #[false, false, false, false, false, false, false, false] (by kernel_rfl) rfl rfl ⟨(blk_cell BK109.out 0).trans rfl, (blk_cell BK109.out 1).trans rfl, (blk_cell BK109.out 2).trans rfl, (blk_cell BK109.out 3).trans rfl, (blk_cell BK109.out 4).trans rfl, (blk_cell BK109.out 5).trans rfl, (blk_cell BK109.out 6).trans rfl, hx120_0, hx120_1, hx120_2, hx120_3, hx120_4, hx120_5, hx120_6⟩ (fun hHeld => ?_); refine with_tabW derrickref13_Insert.tab10 derrickref13_Insert.bits10 (fun HT_ HW_ => ?_)
                    generalize w39.drew = w40 at HO_0 HO_110003 HO116 BK109 HB HL120_3 HR120_3 hx120_0 hx120_1 hx120_2 hx120_3 hx120_4 hx120_5 hx120_6 hHeld ⊢
                    refine pure_ (i := 0) (N := some 40) (v := ?_) (a' := ?_) #[true, false, false, false, false, false, false, false] rfl rfl (any_of HT_.out (by kernel_rfl)) (fun _ _ _ h => h) (Or.inl ⟨by rfl, ?_⟩) ?_ ?_
                    rotate_left
                    · intro w'
                      go_simp
                      with_reducible rfl
                    rotate_left
                    · simp only [Act.put, List.setIfInBounds_toArray, List.set_cons_zero, List.set_cons_succ, i64_w, i32_w]
                      rfl
                    refine pure_ (i := 1) (N := some 41) (v := ?_) (a' := ?_) #[true, true, false, false, false, false, false, false] rfl rfl (any_of HT_.out (by kernel_rfl)) (fun _ _ _ h => h) (Or.inl ⟨by rfl, ?_⟩) ?_ ?_
                    rotate_left
                    · intro w'
                      go_simp
                      with_reducible rfl
                    rotate_left
                    · simp only [Act.put, List.setIfInBounds_toArray, List.set_cons_zero, List.set_cons_succ, i64_w, i32_w]
                      rfl
                    refine pure_ (i := 2) (N := some 42) (v := ?_) (a' := ?_) #[true, true, true, false, false, false, false, false] rfl rfl (any_of HT_.out (by kernel_rfl)) (fun _ _ _ h => h) (Or.inl ⟨by rfl, ?_⟩) ?_ ?_
                    rotate_left
                    · intro w'
                      go_simp
                      with_reducible rfl
                    rotate_left
                    · simp only [Act.put, List.setIfInBounds_toArray, List.set_cons_zero, List.set_cons_succ, i64_w, i32_w]
                      rfl
                    refine pure_ (i := 5) (N := some 45) (v := ?_) (a' := ?_) #[true, true, true, false, false, true, false, false] rfl rfl (any_of HT_.out (by kernel_rfl)) (fun _ _ _ h => h) (Or.inl ⟨by rfl, ?_⟩) ?_ ?_
                    rotate_left
                    · intro w'
                      go_simp
                      with_reducible rfl
                    rotate_left
                    · simp only [Act.put, List.setIfInBounds_toArray, List.set_cons_zero, List.set_cons_succ, i64_w, i32_w]
                      rfl
                    refine take_ (i := 3) (N := some 43) (v := ?_) (a' := ?_) #[true, true, true, true, false, true, false, false] rfl rfl (take_ofW HT_.out HW_.out (by kernel_rfl)) (fun _ _ _ h => h) (Or.inl ⟨by rfl, ?_⟩) hHeld ?_ ?_
                    rotate_left
                    · rintro w' ⟨s0, s1, s2, s3, s4, s5, s6, s7, s8, s9, s10, s11, s12, s13⟩
                      go_simp
                      with_reducible rfl
                    rotate_left
                    · simp only [Act.put, List.setIfInBounds_toArray, List.set_cons_zero, List.set_cons_succ, i64_w, i32_w]
                      rfl
                    refine take_ (i := 4) (N := some 44) (v := ?_) (a' := ?_) #[true, true, true, true, true, true, false, false] rfl rfl (take_ofW HT_.out HW_.out (by kernel_rfl)) (fun _ _ _ h => h) (Or.inl ⟨by rfl, ?_⟩) hHeld ?_ ?_
                    rotate_left
                    · rintro w' ⟨s0, s1, s2, s3, s4, s5, s6, s7, s8, s9, s10, s11, s12, s13⟩
                      go_simp
                      with_reducible rfl
                    rotate_left
                    · simp only [Act.put, List.setIfInBounds_toArray, List.set_cons_zero, List.set_cons_succ, i64_w, i32_w]
                      rfl
                    refine one_ (i := 6) (N := some 46) #[true, true, true, true, true, true, true, false] rfl rfl (one_of HT_.out (by kernel_rfl)) (by decide) (fun K hK => ?_)
                    refine goes_ Try.func32 (by kernel_rfl) rfl #[.agg #[.string ((rd_T35 l0 t110).f0.f0), .int .u16 ((rd_T35 l0 t110).f0.f1), .int .u16 ((rd_T35 l0 t110).f0.f2), .slice A120_3 ((rd_T35 l0 t110).f1).length c120_3, .int .i64 ((rd_T35 l0 t110).f2), .int .i64 ((rd_T35 l0 t110).f3), .int .u64 ((rd_T35 l0 t110).f4)], .agg #[.string a2_0, .int .u16 a2_1, .int .u16 a2_2, .slice A2_3 l2_3.length c2_3, .int .i64 a2_4, .int .i64 a2_5, .int .u64 a2_6], .int .u64 a3] (by rfl) rfl rfl (by (try simp only [List.map_toArray, List.map_cons, List.map_nil]); first | done | rfl | (simp only [List.length_drop, List.length_take]; rfl)) ?_
                    with_reducible refine (derrickref08_Beats.calls ((rd_T35 l0 t110).f0.f0) ((rd_T35 l0 t110).f0.f1) ((rd_T35 l0 t110).f0.f2) _ _ ((rd_T35 l0 t110).f1) ((rd_T35 l0 t110).f2) ((rd_T35 l0 t110).f3) ((rd_T35 l0 t110).f4) a2_0 a2_1 a2_2 _ _ l2_3 a2_4 a2_5 a2_6 a3 false _ ?side1 ?side2 ?side3 ?side4 A25.out).mono ?_
                    (case side1 => repeat (first | exact (by repeat (first | (with_reducible exact HR120_3.out) | (with_reducible refine Kd.C_alloc ?_ _) | (with_reducible refine Kd.C_drewN ?_ _) | (with_reducible refine Kd.C_drew ?_) | exact HR120_3.out)) | (with_reducible refine Kd.C_alloc ?_ _) | (with_reducible refine Kd.C_drewN ?_ _) | (with_reducible refine Kd.C_drew ?_)))
                    (case side2 => exact HC120_3.out)
                    (case side3 => repeat (first | exact (Kd.V_reads' HO_110003.out).2.2 | (with_reducible refine Kd.C_alloc ?_ _) | (with_reducible refine Kd.C_drewN ?_ _) | (with_reducible refine Kd.C_drew ?_)))
                    (case side4 => exact (Kd.V_reads' HO_110003.out).2.1)
                    rintro e w41 ⟨rfl, hb⟩
                    have HS7_ := (hb.cell (World.block_lt_of_cell? _ _ (hHeld.2.2.2.2.2.2.2.1))).trans (hHeld.2.2.2.2.2.2.2.1)
                    have HS8_ := (hb.cell (World.block_lt_of_cell? _ _ (hHeld.2.2.2.2.2.2.2.2.1))).trans (hHeld.2.2.2.2.2.2.2.2.1)
                    have HS9_ := (hb.cell (World.block_lt_of_cell? _ _ (hHeld.2.2.2.2.2.2.2.2.2.1))).trans (hHeld.2.2.2.2.2.2.2.2.2.1)
                    have HS10_ := (hb.cell (World.block_lt_of_cell? _ _ (hHeld.2.2.2.2.2.2.2.2.2.2.1))).trans (hHeld.2.2.2.2.2.2.2.2.2.2.1)
                    have HS11_ := (hb.cell (World.block_lt_of_cell? _ _ (hHeld.2.2.2.2.2.2.2.2.2.2.2.1))).trans (hHeld.2.2.2.2.2.2.2.2.2.2.2.1)
                    have HS12_ := (hb.cell (World.block_lt_of_cell? _ _ (hHeld.2.2.2.2.2.2.2.2.2.2.2.2.1))).trans (hHeld.2.2.2.2.2.2.2.2.2.2.2.2.1)
                    have HS13_ := (hb.cell (World.block_lt_of_cell? _ _ (hHeld.2.2.2.2.2.2.2.2.2.2.2.2.2))).trans (hHeld.2.2.2.2.2.2.2.2.2.2.2.2.2)
                    refine ⟨_, rfl, ?_⟩
                    have n0_ := Aside0.mk (Kd.V_below (by (with_reducible repeat (first | apply Kd.V_alloc | apply Kd.V_drewN | apply Kd.V_drew)); exact HO_0.out) hb)
                    have n1_ := Aside0.mk (Kd.V_below (by (with_reducible repeat (first | apply Kd.V_alloc | apply Kd.V_drewN | apply Kd.V_drew)); exact HO_110003.out) hb)
                    have n2_ := Aside0.mk (Kd.N_below (by (with_reducible repeat (first | apply Kd.N_alloc | apply Kd.N_drewN | apply Kd.N_drew)); exact HO116.out) hb)
                    have n3_ := Aside0.mk (Kd.V_below (by (with_reducible repeat (first | apply Kd.V_alloc | apply Kd.V_drewN | apply Kd.V_drew)); exact HL120_3.out) hb)
                    have n4_ := Aside0.mk (blk_below (g := gb109) (o := .cells #[.string a2_0, .int .u16 a2_1, .int .u16 a2_2, .slice A2_3 l2_3.length c2_3, .int .i64 a2_4, .int .i64 a2_5, .int .u64 a2_6] 35 (0, 0)) (by (with_reducible repeat (first | refine blk_drewN ?_ _ | refine blk_drew ?_ | refine blk_alloc ?_ _)); exact BK109.out) hb)
                    have n5_ := Aside0.mk (Kd.C_below (by repeat (first | (with_reducible exact HR120_3.out) | (with_reducible refine Kd.C_alloc ?_ _) | (with_reducible refine Kd.C_drewN ?_ _) | (with_reducible refine Kd.C_drew ?_) | exact HR120_3.out)) hb)
                    have n6_ := Aside0.mk (below_step (by repeat (first | (with_reducible first | exact HB.out | apply below_alloc | apply pw_below_drewN | apply below_drew1 | refine below_set ?_ GE109.out) | exact HB.out)) hb)
                    clear HO_0
                    clear HO_110003
                    clear HO116
                    clear HL120_3
                    clear BK109
                    clear HR120_3
                    clear HB
                    have HO_0 := n0_
                    have HO_110003 := n1_
                    have HO116 := n2_
                    have HL120_3 := n3_
                    have BK109 := n4_
                    have HR120_3 := n5_
                    have HB := n6_
                    clear n0_ n1_ n2_ n3_ n4_ n5_ n6_
                    (try clear hb)
                    (try clear hb2)
                    (try clear hk)
                    (try clear hi)
                    refine hK.out _ _ ⟨(blk_cell BK109.out 0).trans rfl, (blk_cell BK109.out 1).trans rfl, (blk_cell BK109.out 2).trans rfl, (blk_cell BK109.out 3).trans rfl, (blk_cell BK109.out 4).trans rfl, (blk_cell BK109.out 5).trans rfl, (blk_cell BK109.out 6).trans rfl, HS7_, HS8_, HS9_, HS10_, HS11_, HS12_, HS13_⟩ (fun hHeld => ?_)
                    clear hK K
                    refine norm_ (a' := ?_) ?_ ?_
                    rotate_left
                    · show Act.put _ (some 46) _ = _
                      simp only [Act.put, List.setIfInBounds_toArray, List.set_cons_zero, List.set_cons_succ, i64_w, i32_w]
                      rfl
                    refine pure_ (i := 7) (N := some 47) (v := ?_) (a' := ?_) #[true, true, true, true, true, true, true, true] rfl rfl (any_of HT_.out (by kernel_rfl)) (fun _ _ _ h => h) (Or.inl ⟨by rfl, ?_⟩) ?_ ?_
                    rotate_left
                    · intro w'
                      go_simp
                      with_reducible rfl
                    rotate_left
                    · simp only [Act.put, List.setIfInBounds_toArray, List.set_cons_zero, List.set_cons_succ, i64_w, i32_w]
                      rfl
                    refine done_ (done_of HT_.out (by kernel_rfl)) ?_
                    try go_wp2
                    go_ret2
                    exact ⟨_, by first | rfl | (simp [errW_none, errW_some] <;> rfl) | (simp [*, errW_none, errW_some] <;> rfl), by (with_reducible repeat (first | apply Kd.V_alloc | apply Kd.V_drewN | apply Kd.V_drew)); exact Kd.V_mono HO_0.out (fun _ hk => hk.1.1), by repeat (first | (with_reducible first | exact HB.out | apply below_alloc | apply pw_below_drewN | apply below_drew1 | refine below_set ?_ GE109.out) | exact HB.out)⟩
                · rw [if_neg c24] at H
                  exact absurd H (by simp)
              · rw [if_neg c23] at H
                exact absurd H (by simp)
          · rw [if_neg c15] at H
            exact absurd H (by simp)

end Go.Proofs.Ytnikhiegnledlaa.PPM
namespace Go.Proofs.Ytnikhiegnledlaa.PPM
open Go.RowKit Go.Proofs.YtnikhiegnledlaaW.PrintWords Go.Proofs.YtnikhiegnledlaaW.PrintLast Go.Proofs.YtnikhiegnledlaaW.PrintMore
attribute [local go_sem] max2_int min2_int max_two min_two max_three min_three max_four min_four   -- for this text's walks alone
set_option linter.unusedVariables false
set_option linter.unusedSimpArgs false

/-! ### derrickref13_Lookup: function 24 -/
def derrickref13_Lookup.f (k : Nat) (l0 : List (S35)) (a1_0 : ByteArray) (a1_1 : Int) (a1_2 : Int) (a2 : Int) : Option (ByteArray × Int × Int × (List (S70)) × Int × Int × Int × Bool) := (derrickref13_Find.f k l0 a1_0 a1_1 a1_2).bind fun t125 => (if t125 < 0 then (some ((⟨#[]⟩ : ByteArray), 0, 0, ([] : List (S70)), 0, 0, 0, false)) else (if 0 ≤ t125 then (if t125 < (l0.length : Int) then (if ((rd_T35 l0 t125).f4) ≤ a2 then (some ((⟨#[]⟩ : ByteArray), 0, 0, ([] : List (S70)), 0, 0, 0, false)) else (some ((rd_T35 l0 t125).f0.f0, (rd_T35 l0 t125).f0.f1, (rd_T35 l0 t125).f0.f2, (rd_T35 l0 t125).f1, (rd_T35 l0 t125).f2, (rd_T35 l0 t125).f3, (rd_T35 l0 t125).f4, true))) else (none)) else (none)))
theorem derrickref13_Lookup.mono : ∀ a0 a1 a2 a3 a4 k, LeO (derrickref13_Lookup.f k a0 a1 a2 a3 a4) (derrickref13_Lookup.f (k + 1) a0 a1 a2 a3 a4) := by
  intro a0 a1 a2 a3 a4 k
  unfold derrickref13_Lookup.f
  repeat' first
      | (with_reducible exact derrickref13_Find.mono _ _ _ _ _)
      | (with_reducible exact LeO.refl _)
      | (with_reducible exact LeO.none _)
      | (with_reducible refine LeO.ite ?_ ?_)
      | (with_reducible refine LeO.bind ?_ (fun _ => ?_))
      | exact derrickref13_Find.mono _ _ _ _ _
      | exact LeO.none _
      | refine LeO.ite ?_ ?_
      | refine LeO.bind ?_ (fun _ => ?_)
set_option maxHeartbeats 8000000 in
set_option maxRecDepth 100000 in
theorem derrickref13_Lookup.calls (k : Nat) (P0_ : Nat → Prop) (A0 : Option Addr) (c0 : Nat) (l0 : List (S35)) (a1_0 : ByteArray) (a1_1 : Int) (a1_2 : Int) (a2 : Int) (r1 : ByteArray) (r2 : Int) (r3 : Int) (r4 : List (S70)) (r5 : Int) (r6 : Int) (r7 : Int) (r8 : Bool) (w : World) (hs0 : Kd.V k35 35 w w.heap.size (fun k_ => P0_ k_) (.slice A0 l0.length c0) l0) (h : derrickref13_Lookup.f k l0 a1_0 a1_1 a1_2 a2 = some (r1, r2, r3, r4, r5, r6, r7, r8)) :
    Calls Try.prog 24 #[.slice A0 l0.length c0, .agg #[.string a1_0, .int .u16 a1_1, .int .u16 a1_2], .int .u64 a2] w fun e w' => ∃ v3_ : Value, e = .returned (.tuple #[.agg #[.string r1, .int .u16 r2, .int .u16 r3, v3_, .int .i64 r5, .int .i64 r6, .int .u64 r7], .bool r8]) ∧ Kd.V k70 70 w' w.heap.size (fun k_ => (P0_ k_ ∨ w.heap.size ≤ k_)) v3_ r4 ∧ Below w.heap.size w w' := by
  have hu25 := Try.underlying25
  have hu35 := Try.underlying35
  have HO0 := Aside0.mk (show Kd.V k35 35 w w.heap.size (fun k_ => (P0_ k_ ∨ w.heap.size ≤ k_)) (.slice A0 l0.length c0) l0 from Kd.V_mono hs0 (fun k_ hk => .inl hk))
  have HB := Aside0.mk (Below.refl w.heap.size w)
  have H : ((derrickref13_Find.f k l0 a1_0 a1_1 a1_2).bind fun t125 => (if t125 < 0 then (some ((⟨#[]⟩ : ByteArray), 0, 0, ([] : List (S70)), 0, 0, 0, false)) else (if 0 ≤ t125 then (if t125 < (l0.length : Int) then (if ((rd_T35 l0 t125).f4) ≤ a2 then (some ((⟨#[]⟩ : ByteArray), 0, 0, ([] : List (S70)), 0, 0, 0, false)) else (some ((rd_T35 l0 t125).f0.f0, (rd_T35 l0 t125).f0.f1, (rd_T35 l0 t125).f0.f2, (rd_T35 l0 t125).f1, (rd_T35 l0 t125).f2, (rd_T35 l0 t125).f3, (rd_T35 l0 t125).f4, true))) else (none)) else (none)))) = some (r1, r2, r3, r4, r5, r6, r7, r8) := h
  clear h
  replace H := Option.bind_eq_some_iff.mp H
  obtain ⟨t125, A40, H⟩ := H
  replace H : (if t125 < 0 then (some ((⟨#[]⟩ : ByteArray), 0, 0, ([] : List (S70)), 0, 0, 0, false)) else (if 0 ≤ t125 then (if t125 < (l0.length : Int) then (if ((rd_T35 l0 t125).f4) ≤ a2 then (some ((⟨#[]⟩ : ByteArray), 0, 0, ([] : List (S70)), 0, 0, 0, false)) else (some ((rd_T35 l0 t125).f0.f0, (rd_T35 l0 t125).f0.f1, (rd_T35 l0 t125).f0.f2, (rd_T35 l0 t125).f1, (rd_T35 l0 t125).f2, (rd_T35 l0 t125).f3, (rd_T35 l0 t125).f4, true))) else (none)) else (none))) = some (r1, r2, r3, r4, r5, r6, r7, r8) := H
  have A4 := Aside0.mk A40
  clear A40
  by_cases c5 : t125 < 0
  · rw [if_pos c5] at H
    have c5b0 : decide (t125 < 0) = true := decide_eq_true c5
    clear c5
    simp only [Option.some.injEq, Prod.mk.injEq] at H
    obtain ⟨rfl, rfl, rfl, rfl, rfl, rfl, rfl, rfl⟩ := H
    go_enter Try.func24, Try.ntmps24
    go_wp2_with (first | ((with_reducible refine gate_dst (N := 4) rfl ?_); refine box_event ?hg (N := 4) ?hd (cs := #[.string a1_0, .int .u16 a1_1, .int .u16 a1_2]) (t := 25) ?hr ?_; (case hd => rfl); (case hg => rfl); (case hr => first | (go_simp; done) | (go_simp; rfl)); intro gb123 hg w6 hbox hb; have n0_ := Aside0.mk (Kd.V_below (Kd.V_elderB (by (with_reducible repeat (first | apply Kd.V_alloc | apply Kd.V_drewN | apply Kd.V_drew)); exact HO0.out) gb123 (Nat.le_of_eq hg.symm)) hb); have n1_ := Aside0.mk (below_step (by repeat (first | (with_reducible first | exact HB.out | apply below_alloc | apply pw_below_drewN | apply below_drew1) | exact HB.out)) hb); have n2_ := Aside0.mk (hbox); have n3_ := Aside0.mk ((by rw [hg]; exact (below_size (by repeat (first | (with_reducible first | exact HB.out | apply below_alloc | apply pw_below_drewN | apply below_drew1) | exact HB.out))) : w.heap.size ≤ gb123)); have n4_ := Aside0.mk ((by rw [hg]; exact (below_size (by repeat (first | (with_reducible first | exact HB.out | apply below_alloc | apply pw_below_drewN | apply below_drew1) | exact HB.out))) : w.heap.size ≤ gb123)); clear HO0; clear HB; have HO0 := n0_; have HB := n1_; have BK123 := n2_; have GW123 := n3_; have GE123 := n4_; clear n0_ n1_ n2_ n3_ n4_; clear hb hbox hg) | ((with_reducible refine gate_dst (N := 6) rfl ?_); refine box_event ?hg (N := 6) ?hd (cs := #[.string (⟨#[]⟩ : ByteArray), .int .u16 0, .int .u16 0, .slice none 0 0, .int .i64 0, .int .i64 0, .int .u64 0]) (t := 35) ?hr ?_; (case hd => rfl); (case hg => rfl); (case hr => first | (go_simp; done) | (go_simp; rfl)); intro gb124 hg w7 hbox hb; have n0_ := Aside0.mk (Kd.V_below (Kd.V_elderB (by (with_reducible repeat (first | apply Kd.V_alloc | apply Kd.V_drewN | apply Kd.V_drew)); exact HO0.out) gb124 (Nat.le_of_eq hg.symm)) hb); have n1_ := Aside0.mk (blk_below (g := gb123) (o := .cells #[.string a1_0, .int .u16 a1_1, .int .u16 a1_2] 25 (0, 0)) (by (with_reducible repeat (first | refine blk_drewN ?_ _ | refine blk_drew ?_ | refine blk_alloc ?_ _)); exact BK123.out) hb); have n2_ := Aside0.mk (below_step (by repeat (first | (with_reducible first | exact HB.out | apply below_alloc | apply pw_below_drewN | apply below_drew1 | refine below_set ?_ GE123.out) | exact HB.out)) hb); have n3_ := Aside0.mk (hbox); have n4_ := Aside0.mk ((by rw [hg]; exact (below_size (by repeat (first | (with_reducible first | exact HB.out | apply below_alloc | apply pw_below_drewN | apply below_drew1 | refine below_set ?_ GE123.out) | exact HB.out))) : w.heap.size ≤ gb124)); have n5_ := Aside0.mk ((by rw [hg]; exact (below_size (by repeat (first | (with_reducible first | exact HB.out | apply below_alloc | apply pw_below_drewN | apply below_drew1 | refine below_set ?_ GE123.out) | exact HB.out))) : w.heap.size ≤ gb124)); have n6_ := Aside0.mk ((by rw [hg]; exact Nat.ne_of_lt (blk_lt (g := gb123) (o := .cells #[.string a1_0, .int .u16 a1_1, .int .u16 a1_2] 25 (0, 0)) (by (with_reducible repeat (first | refine blk_drewN ?_ _ | refine blk_drew ?_ | refine blk_alloc ?_ _)); exact BK123.out)) : gb123 ≠ gb124)); have n7_ := Aside0.mk ((by rw [hg]; exact Nat.ne_of_gt (blk_lt (g := gb123) (o := .cells #[.string a1_0, .int .u16 a1_1, .int .u16 a1_2] 25 (0, 0)) (by (with_reducible repeat (first | refine blk_drewN ?_ _ | refine blk_drew ?_ | refine blk_alloc ?_ _)); exact BK123.out)) : gb124 ≠ gb123)); clear HO0; clear BK123; clear HB; have HO0 := n0_; have BK123 := n1_; have HB := n2_; have BK124 := n3_; have GW124 := n4_; have GE124 := n5_; have NB123_124 := n6_; have NB124_123 := n7_; clear n0_ n1_ n2_ n3_ n4_ n5_ n6_ n7_; clear hb hbox hg; have hnb8 := NB123_124.out; have hnc8 := NB124_123.out; have hcz9_0 : w7.cell? ⟨gb123, 0, none⟩ = some (.string a1_0) := (blk_cell BK123.out 0).trans rfl; have hcz9_1 : w7.cell? ⟨gb123, 1, none⟩ = some (.int .u16 a1_1) := (blk_cell BK123.out 1).trans rfl; have hcz9_2 : w7.cell? ⟨gb123, 2, none⟩ = some (.int .u16 a1_2) := (blk_cell BK123.out 2).trans rfl; have hfz9_0 := blk_frozen BK123.out 0; have hfz9_1 := blk_frozen BK123.out 1; have hfz9_2 := blk_frozen BK123.out 2) | ((with_reducible refine gate_callee (f := 15) rfl ?_); refine goesL_ (some 11) rfl rfl Try.func15 (by kernel_rfl) rfl #[.slice A0 l0.length c0, .agg #[.string a1_0, .int .u16 a1_1, .int .u16 a1_2]] rfl (by (try simp only [List.map_toArray, List.map_cons, List.map_nil]); first | done | rfl | (simp only [List.length_drop, List.length_take]; rfl)) ?_; (with_reducible refine (derrickref13_Find.calls k _ _ l0 a1_0 a1_1 a1_2 t125 _ ?side1 ?side2 A4.out).mono ?_); (case side1 => repeat (first | exact (Kd.V_reads' HO0.out).2.2 | (with_reducible refine Kd.C_alloc ?_ _) | (with_reducible refine Kd.C_drewN ?_ _) | (with_reducible refine Kd.C_drew ?_))); (case side2 => exact (Kd.V_reads' HO0.out).2.1); rintro e w10 ⟨rfl, hb⟩; refine ⟨_, rfl, ?_⟩; have n0_ := Aside0.mk (Kd.V_below (by (with_reducible repeat (first | apply Kd.V_alloc | apply Kd.V_drewN | apply Kd.V_drew)); exact HO0.out) hb); have n1_ := Aside0.mk (blk_below (g := gb123) (o := .cells #[.string a1_0, .int .u16 a1_1, .int .u16 a1_2] 25 (0, 0)) (by (with_reducible repeat (first | refine blk_drewN ?_ _ | refine blk_drew ?_ | refine blk_alloc ?_ _)); exact BK123.out) hb); have n2_ := Aside0.mk (blk_below (g := gb124) (o := .cells #[.string (⟨#[]⟩ : ByteArray), .int .u16 0, .int .u16 0, .slice none 0 0, .int .i64 0, .int .i64 0, .int .u64 0] 35 (0, 0)) (by (with_reducible repeat (first | refine blk_drewN ?_ _ | refine blk_drew ?_ | refine blk_alloc ?_ _)); exact BK124.out) hb); have n3_ := Aside0.mk (below_step (by repeat (first | (with_reducible first | exact HB.out | apply below_alloc | apply pw_below_drewN | apply below_drew1 | refine below_set ?_ GE123.out | refine below_set ?_ GE124.out) | exact HB.out)) hb); clear HO0; clear BK123; clear BK124; clear HB; have HO0 := n0_; have BK123 := n1_; have BK124 := n2_; have HB := n3_; clear n0_ n1_ n2_ n3_; (try clear hb); (try clear hb2); (try clear hk); (try clear hi); have hcz11_0 : w10.cell? ⟨gb124, 0, none⟩ = some (.string (⟨#[]⟩ : ByteArray)) := (blk_cell BK124.out 0).trans rfl; have hcz11_1 : w10.cell? ⟨gb124, 1, none⟩ = some (.int .u16 0) := (blk_cell BK124.out 1).trans rfl; have hcz11_2 : w10.cell? ⟨gb124, 2, none⟩ = some (.int .u16 0) := (blk_cell BK124.out 2).trans rfl; have hcz11_3 : w10.cell? ⟨gb124, 3, none⟩ = some (.slice none 0 0) := (blk_cell BK124.out 3).trans rfl; have hcz11_4 : w10.cell? ⟨gb124, 4, none⟩ = some (.int .i64 0) := (blk_cell BK124.out 4).trans rfl; have hcz11_5 : w10.cell? ⟨gb124, 5, none⟩ = some (.int .i64 0) := (blk_cell BK124.out 5).trans rfl; have hcz11_6 : w10.cell? ⟨gb124, 6, none⟩ = some (.int .u64 0) := (blk_cell BK124.out 6).trans rfl; have hfz11_0 := blk_frozen BK124.out 0; have hfz11_1 := blk_frozen BK124.out 1; have hfz11_2 := blk_frozen BK124.out 2; have hfz11_3 := blk_frozen BK124.out 3; have hfz11_4 := blk_frozen BK124.out 4; have hfz11_5 := blk_frozen BK124.out 5; have hfz11_6 := blk_frozen BK124.out 6))
    refine bodyPost_ret (results_ct rfl _ _ gb124 35 #[.string (⟨#[]⟩ : ByteArray), .int .u16 0, .int .u16 0, .slice none 0 0, .int .i64 0, .int .i64 0, .int .u64 0] (0, 0) _ rfl (by (with_reducible repeat (first | refine blk_drewN ?_ _ | refine blk_drew ?_ | refine blk_alloc ?_ _)); refine blk_put (cs := #[.string (⟨#[]⟩ : ByteArray), .int .u16 0, .int .u16 0, .slice none 0 0, .int .i64 0, .int .i64 0, .int .u64 0]) ?_ 6 _ rfl; (with_reducible repeat (first | refine blk_drewN ?_ _ | refine blk_drew ?_ | refine blk_alloc ?_ _)); refine blk_put (cs := #[.string (⟨#[]⟩ : ByteArray), .int .u16 0, .int .u16 0, .slice none 0 0, .int .i64 0, .int .i64 0, .int .u64 0]) ?_ 5 _ rfl; (with_reducible repeat (first | refine blk_drewN ?_ _ | refine blk_drew ?_ | refine blk_alloc ?_ _)); refine blk_put (cs := #[.string (⟨#[]⟩ : ByteArray), .int .u16 0, .int .u16 0, .slice none 0 0, .int .i64 0, .int .i64 0, .int .u64 0]) ?_ 4 _ rfl; (with_reducible repeat (first | refine blk_drewN ?_ _ | refine blk_drew ?_ | refine blk_alloc ?_ _)); refine blk_put (cs := #[.string (⟨#[]⟩ : ByteArray), .int .u16 0, .int .u16 0, .slice none 0 0, .int .i64 0, .int .i64 0, .int .u64 0]) ?_ 3 _ rfl; (with_reducible repeat (first | refine blk_drewN ?_ _ | refine blk_drew ?_ | refine blk_alloc ?_ _)); refine blk_put (cs := #[.string (⟨#[]⟩ : ByteArray), .int .u16 0, .int .u16 0, .slice none 0 0, .int .i64 0, .int .i64 0, .int .u64 0]) ?_ 2 _ rfl; (with_reducible repeat (first | refine blk_drewN ?_ _ | refine blk_drew ?_ | refine blk_alloc ?_ _)); refine blk_put (cs := #[.string (⟨#[]⟩ : ByteArray), .int .u16 0, .int .u16 0, .slice none 0 0, .int .i64 0, .int .i64 0, .int .u64 0]) ?_ 1 _ rfl; (with_reducible repeat (first | refine blk_drewN ?_ _ | refine blk_drew ?_ | refine blk_alloc ?_ _)); refine blk_put (cs := #[.string (⟨#[]⟩ : ByteArray), .int .u16 0, .int .u16 0, .slice none 0 0, .int .i64 0, .int .i64 0, .int .u64 0]) ?_ 0 _ rfl; (with_reducible repeat (first | refine blk_drewN ?_ _ | refine blk_drew ?_ | refine blk_alloc ?_ _)); exact BK124.out) Try.underlying35 rfl (by kernel_rfl)) rfl ?_
    exact ⟨_, by first | rfl | (simp [errW_none, errW_some] <;> rfl) | (simp [*, errW_none, errW_some] <;> rfl), Kd.V_nil _ _ _ _ _, by repeat (first | (with_reducible first | exact HB.out | apply below_alloc | apply pw_below_drewN | apply below_drew1 | refine below_set ?_ GE123.out | refine below_set ?_ GE124.out) | exact HB.out)⟩
  · rw [if_neg c5] at H
    have c5b0 : decide (t125 < 0) = false := decide_eq_false c5
    clear c5
    by_cases c12 : 0 ≤ t125
    · rw [if_pos c12] at H
      have c12b0 : decide (0 ≤ t125) = true := decide_eq_true c12
      clear c12
      by_cases c13 : t125 < (l0.length : Int)
      · rw [if_pos c13] at H
        have c13b0 : decide (t125 < (l0.length : Int)) = true := decide_eq_true c13
        clear c13
        by_cases c14 : ((rd_T35 l0 t125).f4) ≤ a2
        · rw [if_pos c14] at H
          have c14b0 : decide (((rd_T35 l0 t125).f4) ≤ a2) = true := decide_eq_true c14
          clear c14
          simp only [Option.some.injEq, Prod.mk.injEq] at H
          obtain ⟨rfl, rfl, rfl, rfl, rfl, rfl, rfl, rfl⟩ := H
          go_enter Try.func24, Try.ntmps24
          go_wp2_with (first | ((with_reducible refine gate_dst (N := 4) rfl ?_); refine box_event ?hg (N := 4) ?hd (cs := #[.string a1_0, .int .u16 a1_1, .int .u16 a1_2]) (t := 25) ?hr ?_; (case hd => rfl); (case hg => rfl); (case hr => first | (go_simp; done) | (go_simp; rfl)); intro gb123 hg w15 hbox hb; have n0_ := Aside0.mk (Kd.V_below (Kd.V_elderB (by (with_reducible repeat (first | apply Kd.V_alloc | apply Kd.V_drewN | apply Kd.V_drew)); exact HO0.out) gb123 (Nat.le_of_eq hg.symm)) hb); have n1_ := Aside0.mk (below_step (by repeat (first | (with_reducible first | exact HB.out | apply below_alloc | apply pw_below_drewN | apply below_drew1) | exact HB.out)) hb); have n2_ := Aside0.mk (hbox); have n3_ := Aside0.mk ((by rw [hg]; exact (below_size (by repeat (first | (with_reducible first | exact HB.out | apply below_alloc | apply pw_below_drewN | apply below_drew1) | exact HB.out))) : w.heap.size ≤ gb123)); have n4_ := Aside0.mk ((by rw [hg]; exact (below_size (by repeat (first | (with_reducible first | exact HB.out | apply below_alloc | apply pw_below_drewN | apply below_drew1) | exact HB.out))) : w.heap.size ≤ gb123)); clear HO0; clear HB; have HO0 := n0_; have HB := n1_; have BK123 := n2_; have GW123 := n3_; have GE123 := n4_; clear n0_ n1_ n2_ n3_ n4_; clear hb hbox hg) | ((with_reducible refine gate_dst (N := 6) rfl ?_); refine box_event ?hg (N := 6) ?hd (cs := #[.string (⟨#[]⟩ : ByteArray), .int .u16 0, .int .u16 0, .slice none 0 0, .int .i64 0, .int .i64 0, .int .u64 0]) (t := 35) ?hr ?_; (case hd => rfl); (case hg => rfl); (case hr => first | (go_simp; done) | (go_simp; rfl)); intro gb124 hg w16 hbox hb; have n0_ := Aside0.mk (Kd.V_below (Kd.V_elderB (by (with_reducible repeat (first | apply Kd.V_alloc | apply Kd.V_drewN | apply Kd.V_drew)); exact HO0.out) gb124 (Nat.le_of_eq hg.symm)) hb); have n1_ := Aside0.mk (blk_below (g := gb123) (o := .cells #[.string a1_0, .int .u16 a1_1, .int .u16 a1_2] 25 (0, 0)) (by (with_reducible repeat (first | refine blk_drewN ?_ _ | refine blk_drew ?_ | refine blk_alloc ?_ _)); exact BK123.out) hb); have n2_ := Aside0.mk (below_step (by repeat (first | (with_reducible first | exact HB.out | apply below_alloc | apply pw_below_drewN | apply below_drew1 | refine below_set ?_ GE123.out) | exact HB.out)) hb); have n3_ := Aside0.mk (hbox); have n4_ := Aside0.mk ((by rw [hg]; exact (below_size (by repeat (first | (with_reducible first | exact HB.out | apply below_alloc | apply pw_below_drewN | apply below_drew1 | refine below_set ?_ GE123.out) | exact HB.out))) : w.heap.size ≤ gb124)); have n5_ := Aside0.mk ((by rw [hg]; exact (below_size (by repeat (first | (with_reducible first | exact HB.out | apply below_alloc | apply pw_below_drewN | apply below_drew1 | refine below_set ?_ GE123.out) | exact HB.out))) : w.heap.size ≤ gb124)); have n6_ := Aside0.mk ((by rw [hg]; exact Nat.ne_of_lt (blk_lt (g := gb123) (o := .cells #[.string a1_0, .int .u16 a1_1, .int .u16 a1_2] 25 (0, 0)) (by (with_reducible repeat (first | refine blk_drewN ?_ _ | refine blk_drew ?_ | refine blk_alloc ?_ _)); exact BK123.out)) : gb123 ≠ gb124)); have n7_ := Aside0.mk ((by rw [hg]; exact Nat.ne_of_gt (blk_lt (g := gb123) (o := .cells #[.string a1_0, .int .u16 a1_1, .int .u16 a1_2] 25 (0, 0)) (by (with_reducible repeat (first | refine blk_drewN ?_ _ | refine blk_drew ?_ | refine blk_alloc ?_ _)); exact BK123.out)) : gb124 ≠ gb123)); clear HO0; clear BK123; clear HB; have HO0 := n0_; have BK123 := n1_; have HB := n2_; have BK124 := n3_; have GW124 := n4_; have GE124 := n5_; have NB123_124 := n6_; have NB124_123 := n7_; clear n0_ n1_ n2_ n3_ n4_ n5_ n6_ n7_; clear hb hbox hg; have hnb17 := NB123_124.out; have hnc17 := NB124_123.out; have hcz18_0 : w16.cell? ⟨gb123, 0, none⟩ = some (.string a1_0) := (blk_cell BK123.out 0).trans rfl; have hcz18_1 : w16.cell? ⟨gb123, 1, none⟩ = some (.int .u16 a1_1) := (blk_cell BK123.out 1).trans rfl; have hcz18_2 : w16.cell? ⟨gb123, 2, none⟩ = some (.int .u16 a1_2) := (blk_cell BK123.out 2).trans rfl; have hfz18_0 := blk_frozen BK123.out 0; have hfz18_1 := blk_frozen BK123.out 1; have hfz18_2 := blk_frozen BK123.out 2) | ((with_reducible refine gate_callee (f := 15) rfl ?_); refine goesL_ (some 11) rfl rfl Try.func15 (by kernel_rfl) rfl #[.slice A0 l0.length c0, .agg #[.string a1_0, .int .u16 a1_1, .int .u16 a1_2]] rfl (by (try simp only [List.map_toArray, List.map_cons, List.map_nil]); first | done | rfl | (simp only [List.length_drop, List.length_take]; rfl)) ?_; (with_reducible refine (derrickref13_Find.calls k _ _ l0 a1_0 a1_1 a1_2 t125 _ ?side1 ?side2 A4.out).mono ?_); (case side1 => repeat (first | exact (Kd.V_reads' HO0.out).2.2 | (with_reducible refine Kd.C_alloc ?_ _) | (with_reducible refine Kd.C_drewN ?_ _) | (with_reducible refine Kd.C_drew ?_))); (case side2 => exact (Kd.V_reads' HO0.out).2.1); rintro e w19 ⟨rfl, hb⟩; refine ⟨_, rfl, ?_⟩; have n0_ := Aside0.mk (Kd.V_below (by (with_reducible repeat (first | apply Kd.V_alloc | apply Kd.V_drewN | apply Kd.V_drew)); exact HO0.out) hb); have n1_ := Aside0.mk (blk_below (g := gb123) (o := .cells #[.string a1_0, .int .u16 a1_1, .int .u16 a1_2] 25 (0, 0)) (by (with_reducible repeat (first | refine blk_drewN ?_ _ | refine blk_drew ?_ | refine blk_alloc ?_ _)); exact BK123.out) hb); have n2_ := Aside0.mk (blk_below (g := gb124) (o := .cells #[.string (⟨#[]⟩ : ByteArray), .int .u16 0, .int .u16 0, .slice none 0 0, .int .i64 0, .int .i64 0, .int .u64 0] 35 (0, 0)) (by (with_reducible repeat (first | refine blk_drewN ?_ _ | refine blk_drew ?_ | refine blk_alloc ?_ _)); exact BK124.out) hb); have n3_ := Aside0.mk (below_step (by repeat (first | (with_reducible first | exact HB.out | apply below_alloc | apply pw_below_drewN | apply below_drew1 | refine below_set ?_ GE123.out | refine below_set ?_ GE124.out) | exact HB.out)) hb); clear HO0; clear BK123; clear BK124; clear HB; have HO0 := n0_; have BK123 := n1_; have BK124 := n2_; have HB := n3_; clear n0_ n1_ n2_ n3_; (try clear hb); (try clear hb2); (try clear hk); (try clear hi); have p126 : 0 ≤ (t125 : Int) := of_decide_eq_true (by first | (with_reducible assumption) | assumption); have q126 : t125 < (l0.length : Int) := of_decide_eq_true (by first | (with_reducible assumption) | assumption); obtain ⟨ad126, A126_3, c126_3, e126, hx126_0, hx126_1, hx126_2, hx126_3, hx126_4, hx126_5, hx126_6, hl126_3, hi126_3⟩ := at_T35 (Kd.V_reads' HO0.out).2.2 t125 p126 q126; cases e126; obtain ⟨ce126, hce126, hMe126, hcc126⟩ := Kd.V_get HO0.out z35 t125 p126 (by first | exact q126 | exact of_decide_eq_true (by first | (with_reducible assumption) | assumption) | (have e_ := (Kd.V_reads' HO0.out).1; omega)); obtain ⟨ua126_3, uc126_3, rfl, ul126_3, ge126_3⟩ := k35_openF hMe126; have hv126_3 := hcc126 3 _ rfl; rw [add_field _ _ 3 (by omega)] at hv126_3; replace hv126_3 := Option.some.inj (hv126_3.symm.trans hx126_3); injection hv126_3 with hva_ hvn_ hvc_; rw [hva_] at ge126_3; rw [hvc_] at ul126_3; have HL126_3 := Aside0.mk (show Kd.V k70 70 _ w.heap.size _ _ ((rd_T35 l0 t125).f1) from Kd.V_mk ul126_3 ge126_3); clear hva_ hvn_ hvc_ ge126_3 ul126_3; clear hcc126 hce126; have HR126_3 := Aside0.mk hi126_3; have HC126_3 := Aside0.mk hl126_3; clear hi126_3 hl126_3; replace p126 := eq_true p126; replace q126 := eq_true q126; have hcz20_0 : w19.cell? ⟨gb124, 0, none⟩ = some (.string (⟨#[]⟩ : ByteArray)) := (blk_cell BK124.out 0).trans rfl; have hcz20_1 : w19.cell? ⟨gb124, 1, none⟩ = some (.int .u16 0) := (blk_cell BK124.out 1).trans rfl; have hcz20_2 : w19.cell? ⟨gb124, 2, none⟩ = some (.int .u16 0) := (blk_cell BK124.out 2).trans rfl; have hcz20_3 : w19.cell? ⟨gb124, 3, none⟩ = some (.slice none 0 0) := (blk_cell BK124.out 3).trans rfl; have hcz20_4 : w19.cell? ⟨gb124, 4, none⟩ = some (.int .i64 0) := (blk_cell BK124.out 4).trans rfl; have hcz20_5 : w19.cell? ⟨gb124, 5, none⟩ = some (.int .i64 0) := (blk_cell BK124.out 5).trans rfl; have hcz20_6 : w19.cell? ⟨gb124, 6, none⟩ = some (.int .u64 0) := (blk_cell BK124.out 6).trans rfl; have hfz20_0 := blk_frozen BK124.out 0; have hfz20_1 := blk_frozen BK124.out 1; have hfz20_2 := blk_frozen BK124.out 2; have hfz20_3 := blk_frozen BK124.out 3; have hfz20_4 := blk_frozen BK124.out 4; have hfz20_5 := blk_frozen BK124.out 5; have hfz20_6 := blk_frozen BK124.out 6))
          refine bodyPost_ret (results_ct rfl _ _ gb124 35 #[.string (⟨#[]⟩ : ByteArray), .int .u16 0, .int .u16 0, .slice none 0 0, .int .i64 0, .int .i64 0, .int .u64 0] (0, 0) _ rfl (by (with_reducible repeat (first | refine blk_drewN ?_ _ | refine blk_drew ?_ | refine blk_alloc ?_ _)); refine blk_put (cs := #[.string (⟨#[]⟩ : ByteArray), .int .u16 0, .int .u16 0, .slice none 0 0, .int .i64 0, .int .i64 0, .int .u64 0]) ?_ 6 _ rfl; (with_reducible repeat (first | refine blk_drewN ?_ _ | refine blk_drew ?_ | refine blk_alloc ?_ _)); refine blk_put (cs := #[.string (⟨#[]⟩ : ByteArray), .int .u16 0, .int .u16 0, .slice none 0 0, .int .i64 0, .int .i64 0, .int .u64 0]) ?_ 5 _ rfl; (with_reducible repeat (first | refine blk_drewN ?_ _ | refine blk_drew ?_ | refine blk_alloc ?_ _)); refine blk_put (cs := #[.string (⟨#[]⟩ : ByteArray), .int .u16 0, .int .u16 0, .slice none 0 0, .int .i64 0, .int .i64 0, .int .u64 0]) ?_ 4 _ rfl; (with_reducible repeat (first | refine blk_drewN ?_ _ | refine blk_drew ?_ | refine blk_alloc ?_ _)); refine blk_put (cs := #[.string (⟨#[]⟩ : ByteArray), .int .u16 0, .int .u16 0, .slice none 0 0, .int .i64 0, .int .i64 0, .int .u64 0]) ?_ 3 _ rfl; (with_reducible repeat (first | refine blk_drewN ?_ _ | refine blk_drew ?_ | refine blk_alloc ?_ _)); refine blk_put (cs := #[.string (⟨#[]⟩ : ByteArray), .int .u16 0, .int .u16 0, .slice none 0 0, .int .i64 0, .int .i64 0, .int .u64 0]) ?_ 2 _ rfl; (with_reducible repeat (first | refine blk_drewN ?_ _ | refine blk_drew ?_ | refine blk_alloc ?_ _)); refine blk_put (cs := #[.string (⟨#[]⟩ : ByteArray), .int .u16 0, .int .u16 0, .slice none 0 0, .int .i64 0, .int .i64 0, .int .u64 0]) ?_ 1 _ rfl; (with_reducible repeat (first | refine blk_drewN ?_ _ | refine blk_drew ?_ | refine blk_alloc ?_ _)); refine blk_put (cs := #[.string (⟨#[]⟩ : ByteArray), .int .u16 0, .int .u16 0, .slice none 0 0, .int .i64 0, .int .i64 0, .int .u64 0]) ?_ 0 _ rfl; (with_reducible repeat (first | refine blk_drewN ?_ _ | refine blk_drew ?_ | refine blk_alloc ?_ _)); exact BK124.out) Try.underlying35 rfl (by kernel_rfl)) rfl ?_
          exact ⟨_, by first | rfl | (simp [errW_none, errW_some] <;> rfl) | (simp [*, errW_none, errW_some] <;> rfl), Kd.V_nil _ _ _ _ _, by repeat (first | (with_reducible first | exact HB.out | apply below_alloc | apply pw_below_drewN | apply below_drew1 | refine below_set ?_ GE123.out | refine below_set ?_ GE124.out) | exact HB.out)⟩
        · rw [if_neg c14] at H
          have c14b0 : decide (((rd_T35 l0 t125).f4) ≤ a2) = false := decide_eq_false c14
          clear c14
          simp only [Option.some.injEq, Prod.mk.injEq] at H
          obtain ⟨rfl, rfl, rfl, rfl, rfl, rfl, rfl, rfl⟩ := H
          go_enter Try.func24, Try.ntmps24
          go_wp2_with (first | ((with_reducible refine gate_dst (N := 4) rfl ?_); refine box_event ?hg (N := 4) ?hd (cs := #[.string a1_0, .int .u16 a1_1, .int .u16 a1_2]) (t := 25) ?hr ?_; (case hd => rfl); (case hg => rfl); (case hr => first | (go_simp; done) | (go_simp; rfl)); intro gb123 hg w21 hbox hb; have n0_ := Aside0.mk (Kd.V_below (Kd.V_elderB (by (with_reducible repeat (first | apply Kd.V_alloc | apply Kd.V_drewN | apply Kd.V_drew)); exact HO0.out) gb123 (Nat.le_of_eq hg.symm)) hb); have n1_ := Aside0.mk (below_step (by repeat (first | (with_reducible first | exact HB.out | apply below_alloc | apply pw_below_drewN | apply below_drew1) | exact HB.out)) hb); have n2_ := Aside0.mk (hbox); have n3_ := Aside0.mk ((by rw [hg]; exact (below_size (by repeat (first | (with_reducible first | exact HB.out | apply below_alloc | apply pw_below_drewN | apply below_drew1) | exact HB.out))) : w.heap.size ≤ gb123)); have n4_ := Aside0.mk ((by rw [hg]; exact (below_size (by repeat (first | (with_reducible first | exact HB.out | apply below_alloc | apply pw_below_drewN | apply below_drew1) | exact HB.out))) : w.heap.size ≤ gb123)); clear HO0; clear HB; have HO0 := n0_; have HB := n1_; have BK123 := n2_; have GW123 := n3_; have GE123 := n4_; clear n0_ n1_ n2_ n3_ n4_; clear hb hbox hg) | ((with_reducible refine gate_dst (N := 6) rfl ?_); refine box_event ?hg (N := 6) ?hd (cs := #[.string (⟨#[]⟩ : ByteArray), .int .u16 0, .int .u16 0, .slice none 0 0, .int .i64 0, .int .i64 0, .int .u64 0]) (t := 35) ?hr ?_; (case hd => rfl); (case hg => rfl); (case hr => first | (go_simp; done) | (go_simp; rfl)); intro gb124 hg w22 hbox hb; have n0_ := Aside0.mk (Kd.V_below (Kd.V_elderB (by (with_reducible repeat (first | apply Kd.V_alloc | apply Kd.V_drewN | apply Kd.V_drew)); exact HO0.out) gb124 (Nat.le_of_eq hg.symm)) hb); have n1_ := Aside0.mk (blk_below (g := gb123) (o := .cells #[.string a1_0, .int .u16 a1_1, .int .u16 a1_2] 25 (0, 0)) (by (with_reducible repeat (first | refine blk_drewN ?_ _ | refine blk_drew ?_ | refine blk_alloc ?_ _)); exact BK123.out) hb); have n2_ := Aside0.mk (below_step (by repeat (first | (with_reducible first | exact HB.out | apply below_alloc | apply pw_below_drewN | apply below_drew1 | refine below_set ?_ GE123.out) | exact HB.out)) hb); have n3_ := Aside0.mk (hbox); have n4_ := Aside0.mk ((by rw [hg]; exact (below_size (by repeat (first | (with_reducible first | exact HB.out | apply below_alloc | apply pw_below_drewN | apply below_drew1 | refine below_set ?_ GE123.out) | exact HB.out))) : w.heap.size ≤ gb124)); have n5_ := Aside0.mk ((by rw [hg]; exact (below_size (by repeat (first | (with_reducible first | exact HB.out | apply below_alloc | apply pw_below_drewN | apply below_drew1 | refine below_set ?_ GE123.out) | exact HB.out))) : w.heap.size ≤ gb124)); have n6_ := Aside0.mk ((by rw [hg]; exact Nat.ne_of_lt (blk_lt (g := gb123) (o := .cells #[.string a1_0, .int .u16 a1_1, .int .u16 a1_2] 25 (0, 0)) (by (with_reducible repeat (first | refine blk_drewN ?_ _ | refine blk_drew ?_ | refine blk_alloc ?_ _)); exact BK123.out)) : gb123 ≠ gb124)); have n7_ := Aside0.mk ((by rw [hg]; exact Nat.ne_of_gt (blk_lt (g := gb123) (o := .cells #[.string a1_0, .int .u16 a1_1, .int .u16 a1_2] 25 (0, 0)) (by (with_reducible repeat (first | refine blk_drewN ?_ _ | refine blk_drew ?_ | refine blk_alloc ?_ _)); exact BK123.out)) : gb124 ≠ gb123)); clear HO0; clear BK123; clear HB; have HO0 := n0_; have BK123 := n1_; have HB := n2_; have BK124 := n3_; have GW124 := n4_; have GE124 := n5_; have NB123_124 := n6_; have NB124_123 := n7_; clear n0_ n1_ n2_ n3_ n4_ n5_ n6_ n7_; clear hb hbox hg; have hnb23 := NB123_124.out; have hnc23 := NB124_123.out; have hcz24_0 : w22.cell? ⟨gb123, 0, none⟩ = some (.string a1_0) := (blk_cell BK123.out 0).trans rfl; have hcz24_1 : w22.cell? ⟨gb123, 1, none⟩ = some (.int .u16 a1_1) := (blk_cell BK123.out 1).trans rfl; have hcz24_2 : w22.cell? ⟨gb123, 2, none⟩ = some (.int .u16 a1_2) := (blk_cell BK123.out 2).trans rfl; have hfz24_0 := blk_frozen BK123.out 0; have hfz24_1 := blk_frozen BK123.out 1; have hfz24_2 := blk_frozen BK123.out 2) | ((with_reducible refine gate_callee (f := 15) rfl ?_); refine goesL_ (some 11) rfl rfl Try.func15 (by kernel_rfl) rfl #[.slice A0 l0.length c0, .agg #[.string a1_0, .int .u16 a1_1, .int .u16 a1_2]] rfl (by (try simp only [List.map_toArray, List.map_cons, List.map_nil]); first | done | rfl | (simp only [List.length_drop, List.length_take]; rfl)) ?_; (with_reducible refine (derrickref13_Find.calls k _ _ l0 a1_0 a1_1 a1_2 t125 _ ?side1 ?side2 A4.out).mono ?_); (case side1 => repeat (first | exact (Kd.V_reads' HO0.out).2.2 | (with_reducible refine Kd.C_alloc ?_ _) | (with_reducible refine Kd.C_drewN ?_ _) | (with_reducible refine Kd.C_drew ?_))); (case side2 => exact (Kd.V_reads' HO0.out).2.1); rintro e w25 ⟨rfl, hb⟩; refine ⟨_, rfl, ?_⟩; have n0_ := Aside0.mk (Kd.V_below (by (with_reducible repeat (first | apply Kd.V_alloc | apply Kd.V_drewN | apply Kd.V_drew)); exact HO0.out) hb); have n1_ := Aside0.mk (blk_below (g := gb123) (o := .cells #[.string a1_0, .int .u16 a1_1, .int .u16 a1_2] 25 (0, 0)) (by (with_reducible repeat (first | refine blk_drewN ?_ _ | refine blk_drew ?_ | refine blk_alloc ?_ _)); exact BK123.out) hb); have n2_ := Aside0.mk (blk_below (g := gb124) (o := .cells #[.string (⟨#[]⟩ : ByteArray), .int .u16 0, .int .u16 0, .slice none 0 0, .int .i64 0, .int .i64 0, .int .u64 0] 35 (0, 0)) (by (with_reducible repeat (first | refine blk_drewN ?_ _ | refine blk_drew ?_ | refine blk_alloc ?_ _)); exact BK124.out) hb); have n3_ := Aside0.mk (below_step (by repeat (first | (with_reducible first | exact HB.out | apply below_alloc | apply pw_below_drewN | apply below_drew1 | refine below_set ?_ GE123.out | refine below_set ?_ GE124.out) | exact HB.out)) hb); clear HO0; clear BK123; clear BK124; clear HB; have HO0 := n0_; have BK123 := n1_; have BK124 := n2_; have HB := n3_; clear n0_ n1_ n2_ n3_; (try clear hb); (try clear hb2); (try clear hk); (try clear hi); have p126 : 0 ≤ (t125 : Int) := of_decide_eq_true (by first | (with_reducible assumption) | assumption); have q126 : t125 < (l0.length : Int) := of_decide_eq_true (by first | (with_reducible assumption) | assumption); obtain ⟨ad126, A126_3, c126_3, e126, hx126_0, hx126_1, hx126_2, hx126_3, hx126_4, hx126_5, hx126_6, hl126_3, hi126_3⟩ := at_T35 (Kd.V_reads' HO0.out).2.2 t125 p126 q126; cases e126; obtain ⟨ce126, hce126, hMe126, hcc126⟩ := Kd.V_get HO0.out z35 t125 p126 (by first | exact q126 | exact of_decide_eq_true (by first | (with_reducible assumption) | assumption) | (have e_ := (Kd.V_reads' HO0.out).1; omega)); obtain ⟨ua126_3, uc126_3, rfl, ul126_3, ge126_3⟩ := k35_openF hMe126; have hv126_3 := hcc126 3 _ rfl; rw [add_field _ _ 3 (by omega)] at hv126_3; replace hv126_3 := Option.some.inj (hv126_3.symm.trans hx126_3); injection hv126_3 with hva_ hvn_ hvc_; rw [hva_] at ge126_3; rw [hvc_] at ul126_3; have HL126_3 := Aside0.mk (show Kd.V k70 70 _ w.heap.size _ _ ((rd_T35 l0 t125).f1) from Kd.V_mk ul126_3 ge126_3); clear hva_ hvn_ hvc_ ge126_3 ul126_3; clear hcc126 hce126; have HR126_3 := Aside0.mk hi126_3; have HC126_3 := Aside0.mk hl126_3; clear hi126_3 hl126_3; replace p126 := eq_true p126; replace q126 := eq_true q126; have p127 : 0 ≤ (t125 : Int) := of_decide_eq_true (by first | (with_reducible assumption) | assumption); have q127 : t125 < (l0.length : Int) := of_decide_eq_true (by first | (with_reducible assumption) | assumption); obtain ⟨ad127, A127_3, c127_3, e127, hx127_0, hx127_1, hx127_2, hx127_3, hx127_4, hx127_5, hx127_6, hl127_3, hi127_3⟩ := at_T35 (Kd.V_reads' HO0.out).2.2 t125 p127 q127; obtain rfl : ad126 = ad127 := (by injection e127); obtain ⟨ce127, hce127, hMe127, hcc127⟩ := Kd.V_get HO0.out z35 t125 p127 (by first | exact q127 | exact of_decide_eq_true (by first | (with_reducible assumption) | assumption) | (have e_ := (Kd.V_reads' HO0.out).1; omega)); obtain ⟨ua127_3, uc127_3, rfl, ul127_3, ge127_3⟩ := k35_openF hMe127; have hv127_3 := hcc127 3 _ rfl; rw [add_field _ _ 3 (by omega)] at hv127_3; replace hv127_3 := Option.some.inj (hv127_3.symm.trans hx127_3); injection hv127_3 with hva_ hvn_ hvc_; rw [hva_] at ge127_3; rw [hvc_] at ul127_3; have HL127_3 := Aside0.mk (show Kd.V k70 70 _ w.heap.size _ _ ((rd_T35 l0 t125).f1) from Kd.V_mk ul127_3 ge127_3); clear hva_ hvn_ hvc_ ge127_3 ul127_3; clear hcc127 hce127; have HR127_3 := Aside0.mk hi127_3; have HC127_3 := Aside0.mk hl127_3; clear hi127_3 hl127_3; replace p127 := eq_true p127; replace q127 := eq_true q127; have ea_ := Option.some.inj (hx126_3.symm.trans hx127_3); injection ea_ with ea_ en_ ec_; subst ea_; subst ec_; clear en_; have hcz26_0 : w25.cell? ⟨gb124, 0, none⟩ = some (.string (⟨#[]⟩ : ByteArray)) := (blk_cell BK124.out 0).trans rfl; have hcz26_1 : w25.cell? ⟨gb124, 1, none⟩ = some (.int .u16 0) := (blk_cell BK124.out 1).trans rfl; have hcz26_2 : w25.cell? ⟨gb124, 2, none⟩ = some (.int .u16 0) := (blk_cell BK124.out 2).trans rfl; have hcz26_3 : w25.cell? ⟨gb124, 3, none⟩ = some (.slice none 0 0) := (blk_cell BK124.out 3).trans rfl; have hcz26_4 : w25.cell? ⟨gb124, 4, none⟩ = some (.int .i64 0) := (blk_cell BK124.out 4).trans rfl; have hcz26_5 : w25.cell? ⟨gb124, 5, none⟩ = some (.int .i64 0) := (blk_cell BK124.out 5).trans rfl; have hcz26_6 : w25.cell? ⟨gb124, 6, none⟩ = some (.int .u64 0) := (blk_cell BK124.out 6).trans rfl; have hfz26_0 := blk_frozen BK124.out 0; have hfz26_1 := blk_frozen BK124.out 1; have hfz26_2 := blk_frozen BK124.out 2; have hfz26_3 := blk_frozen BK124.out 3; have hfz26_4 := blk_frozen BK124.out 4; have hfz26_5 := blk_frozen BK124.out 5; have hfz26_6 := blk_frozen BK124.out 6))
          refine bodyPost_ret (results_ct rfl _ _ gb124 35 #[.string ((rd_T35 l0 t125).f0.f0), .int .u16 ((rd_T35 l0 t125).f0.f1), .int .u16 ((rd_T35 l0 t125).f0.f2), .slice A126_3 ((rd_T35 l0 t125).f1).length c126_3, .int .i64 ((rd_T35 l0 t125).f2), .int .i64 ((rd_T35 l0 t125).f3), .int .u64 ((rd_T35 l0 t125).f4)] (0, 0) _ rfl (by (with_reducible repeat (first | refine blk_drewN ?_ _ | refine blk_drew ?_ | refine blk_alloc ?_ _)); refine blk_put (cs := #[.string ((rd_T35 l0 t125).f0.f0), .int .u16 ((rd_T35 l0 t125).f0.f1), .int .u16 ((rd_T35 l0 t125).f0.f2), .slice A126_3 ((rd_T35 l0 t125).f1).length c126_3, .int .i64 ((rd_T35 l0 t125).f2), .int .i64 ((rd_T35 l0 t125).f3), .int .u64 0]) ?_ 6 _ rfl; (with_reducible repeat (first | refine blk_drewN ?_ _ | refine blk_drew ?_ | refine blk_alloc ?_ _)); refine blk_put (cs := #[.string ((rd_T35 l0 t125).f0.f0), .int .u16 ((rd_T35 l0 t125).f0.f1), .int .u16 ((rd_T35 l0 t125).f0.f2), .slice A126_3 ((rd_T35 l0 t125).f1).length c126_3, .int .i64 ((rd_T35 l0 t125).f2), .int .i64 0, .int .u64 0]) ?_ 5 _ rfl; (with_reducible repeat (first | refine blk_drewN ?_ _ | refine blk_drew ?_ | refine blk_alloc ?_ _)); refine blk_put (cs := #[.string ((rd_T35 l0 t125).f0.f0), .int .u16 ((rd_T35 l0 t125).f0.f1), .int .u16 ((rd_T35 l0 t125).f0.f2), .slice A126_3 ((rd_T35 l0 t125).f1).length c126_3, .int .i64 0, .int .i64 0, .int .u64 0]) ?_ 4 _ rfl; (with_reducible repeat (first | refine blk_drewN ?_ _ | refine blk_drew ?_ | refine blk_alloc ?_ _)); refine blk_put (cs := #[.string ((rd_T35 l0 t125).f0.f0), .int .u16 ((rd_T35 l0 t125).f0.f1), .int .u16 ((rd_T35 l0 t125).f0.f2), .slice none 0 0, .int .i64 0, .int .i64 0, .int .u64 0]) ?_ 3 _ rfl; (with_reducible repeat (first | refine blk_drewN ?_ _ | refine blk_drew ?_ | refine blk_alloc ?_ _)); refine blk_put (cs := #[.string ((rd_T35 l0 t125).f0.f0), .int .u16 ((rd_T35 l0 t125).f0.f1), .int .u16 0, .slice none 0 0, .int .i64 0, .int .i64 0, .int .u64 0]) ?_ 2 _ rfl; (with_reducible repeat (first | refine blk_drewN ?_ _ | refine blk_drew ?_ | refine blk_alloc ?_ _)); refine blk_put (cs := #[.string ((rd_T35 l0 t125).f0.f0), .int .u16 0, .int .u16 0, .slice none 0 0, .int .i64 0, .int .i64 0, .int .u64 0]) ?_ 1 _ rfl; (with_reducible repeat (first | refine blk_drewN ?_ _ | refine blk_drew ?_ | refine blk_alloc ?_ _)); refine blk_put (cs := #[.string (⟨#[]⟩ : ByteArray), .int .u16 0, .int .u16 0, .slice none 0 0, .int .i64 0, .int .i64 0, .int .u64 0]) ?_ 0 _ rfl; (with_reducible repeat (first | refine blk_drewN ?_ _ | refine blk_drew ?_ | refine blk_alloc ?_ _)); exact BK124.out) Try.underlying35 rfl (by kernel_rfl)) rfl ?_
          exact ⟨_, by first | rfl | (simp [errW_none, errW_some] <;> rfl) | (simp [*, errW_none, errW_some] <;> rfl), by (with_reducible repeat (first | apply Kd.V_alloc | apply Kd.V_drewN | apply Kd.V_drew)); exact Kd.V_mono (Kd.V_far (p := ⟨gb124, 6, none⟩) (Kd.V_far (p := ⟨gb124, 5, none⟩) (Kd.V_far (p := ⟨gb124, 4, none⟩) (Kd.V_far (p := ⟨gb124, 3, none⟩) (Kd.V_far (p := ⟨gb124, 2, none⟩) (Kd.V_far (p := ⟨gb124, 1, none⟩) (Kd.V_far (p := ⟨gb124, 0, none⟩) (Kd.V_mono HL127_3.out (fun k_ hk => (⟨hk, hk.2⟩ : _ ∧ k_ ≠ gb124))) (fun _ hk => hk.2) (.string ((rd_T35 l0 t125).f0.f0))) (fun _ hk => hk.2) (.int .u16 ((rd_T35 l0 t125).f0.f1))) (fun _ hk => hk.2) (.int .u16 ((rd_T35 l0 t125).f0.f2))) (fun _ hk => hk.2) (.slice A126_3 ((rd_T35 l0 t125).f1).length c126_3)) (fun _ hk => hk.2) (.int .i64 ((rd_T35 l0 t125).f2))) (fun _ hk => hk.2) (.int .i64 ((rd_T35 l0 t125).f3))) (fun _ hk => hk.2) (.int .u64 ((rd_T35 l0 t125).f4))) (fun _ hk => hk.1.1.1), by repeat (first | (with_reducible first | exact HB.out | apply below_alloc | apply pw_below_drewN | apply below_drew1 | refine below_set ?_ GE123.out | refine below_set ?_ GE124.out) | exact HB.out)⟩
      · rw [if_neg c13] at H
        exact absurd H (by simp)
    · rw [if_neg c12] at H
      exact absurd H (by simp)

end Go.Proofs.Ytnikhiegnledlaa.PPM
namespace Go.Proofs.Ytnikhiegnledlaa.PPM
open Go.RowKit Go.Proofs.YtnikhiegnledlaaW.PrintWords Go.Proofs.YtnikhiegnledlaaW.PrintLast Go.Proofs.YtnikhiegnledlaaW.PrintMore
attribute [local go_sem] max2_int min2_int max_two min_two max_three min_three max_four min_four   -- for this text's walks alone
set_option linter.unusedVariables false
set_option linter.unusedSimpArgs false

attribute [local go_sem high] eqA25
/-! ### derrickref13_Drop: function 25 -/
def derrickref13_Drop.l0 : Nat → List (S35) → List (S35) → Int → ByteArray → Int → Int → Option ((List (S35)) × Bool)
  | 0, _, _, _, _, _, _ => none
  | k + 1, x0, x6, x7, x129000, x129001, x129002 => if x7 < (x0.length : Int) then (if 0 ≤ x7 then (if (!((((rd_T35 x0 x7).f0.f0).toList) == x129000.toList) || (!(((rd_T35 x0 x7).f0.f1) == x129001) || (!(((rd_T35 x0 x7).f0.f2) == x129002)))) = true then (if x6.length < 1954687338268 then (derrickref13_Drop.l0 k x0 (x6 ++ [(⟨(⟨(rd_T35 x0 x7).f0.f0, (rd_T35 x0 x7).f0.f1, (rd_T35 x0 x7).f0.f2⟩ : S25), (rd_T35 x0 x7).f1, (rd_T35 x0 x7).f2, (rd_T35 x0 x7).f3, (rd_T35 x0 x7).f4⟩ : S35)]) (wrap64 (x7 + 1)) x129000 x129001 x129002) else (none)) else (derrickref13_Drop.l0 k x0 x6 (wrap64 (x7 + 1)) x129000 x129001 x129002)) else (none)) else (some (x6, decide ((x6.length : Int) < (x0.length : Int))))
def derrickref13_Drop.f (k : Nat) (l0 : List (S35)) (a1_0 : ByteArray) (a1_1 : Int) (a1_2 : Int) : Option ((List (S35)) × Bool) := derrickref13_Drop.l0 k l0 ([] : List (S35)) 0 a1_0 a1_1 a1_2
theorem derrickref13_Drop.mono_l : ∀ k, (∀ y0 y1 y2 y3 y4 y5, LeO (derrickref13_Drop.l0 k y0 y1 y2 y3 y4 y5) (derrickref13_Drop.l0 (k + 1) y0 y1 y2 y3 y4 y5))
  | 0 => fun _ _ _ _ _ _ r h => by simp [derrickref13_Drop.l0] at h
  | k + 1 => by
    have ih0 := derrickref13_Drop.mono_l k
    · intro y0 y1 y2 y3 y4 y5
      unfold derrickref13_Drop.l0
      repeat' first
      | (with_reducible exact ih0 _ _ _ _ _ _)
      | (with_reducible exact LeO.refl _)
      | (with_reducible exact LeO.none _)
      | (with_reducible refine LeO.ite ?_ ?_)
      | (with_reducible refine LeO.bind ?_ (fun _ => ?_))
      | exact ih0 _ _ _ _ _ _
      | exact LeO.none _
      | refine LeO.ite ?_ ?_
      | refine LeO.bind ?_ (fun _ => ?_)
theorem derrickref13_Drop.mono : ∀ a0 a1 a2 a3 k, LeO (derrickref13_Drop.f k a0 a1 a2 a3) (derrickref13_Drop.f (k + 1) a0 a1 a2 a3) := by
  intro a0 a1 a2 a3 k
  have ih0 := derrickref13_Drop.mono_l k
  unfold derrickref13_Drop.f
  repeat' first
      | (with_reducible exact ih0 _ _ _ _ _ _)
      | (with_reducible exact LeO.refl _)
      | (with_reducible exact LeO.none _)
      | (with_reducible refine LeO.ite ?_ ?_)
      | (with_reducible refine LeO.bind ?_ (fun _ => ?_))
      | exact ih0 _ _ _ _ _ _
      | exact LeO.none _
      | refine LeO.ite ?_ ?_
      | refine LeO.bind ?_ (fun _ => ?_)
set_option maxHeartbeats 8000000 in
set_option maxRecDepth 100000 in
theorem derrickref13_Drop.calls (k : Nat) (P0_ : Nat → Prop) (A0 : Option Addr) (c0 : Nat) (l0 : List (S35)) (a1_0 : ByteArray) (a1_1 : Int) (a1_2 : Int) (r1 : List (S35)) (r2 : Bool) (w : World) (hs0 : Kd.V k35 35 w w.heap.size (fun k_ => P0_ k_) (.slice A0 l0.length c0) l0) (h : derrickref13_Drop.f k l0 a1_0 a1_1 a1_2 = some (r1, r2)) :
    Calls Try.prog 25 #[.slice A0 l0.length c0, .agg #[.string a1_0, .int .u16 a1_1, .int .u16 a1_2]] w fun e w' => ∃ v0_ : Value, e = .returned (.tuple #[v0_, .bool r2]) ∧ Kd.N k35 35 w' w.heap.size (fun k_ => (P0_ k_ ∨ w.heap.size ≤ k_)) v0_ r1 ∧ Below w.heap.size w w' := by
  have hu25 := Try.underlying25
  have hu35 := Try.underlying35
  have HO0 := Aside0.mk (show Kd.V k35 35 w w.heap.size (fun k_ => (P0_ k_ ∨ w.heap.size ≤ k_)) (.slice A0 l0.length c0) l0 from Kd.V_mono hs0 (fun k_ hk => .inl hk))
  have HB := Aside0.mk (Below.refl w.heap.size w)
  have H : (derrickref13_Drop.l0 k l0 ([] : List (S35)) 0 a1_0 a1_1 a1_2) = some (r1, r2) := h
  clear h
  have H' := Aside0.mk H
  clear H
  go_enter Try.func25, Try.ntmps25
  go_wp2_with (first | ((with_reducible refine gate_dst (N := 3) rfl ?_); refine box_event ?hg (N := 3) ?hd (cs := #[.string a1_0, .int .u16 a1_1, .int .u16 a1_2]) (t := 25) ?hr ?_; (case hd => rfl); (case hg => rfl); (case hr => first | (go_simp; done) | (go_simp; rfl)); intro gb128 hg w3 hbox hb; have n0_ := Aside0.mk (Kd.V_below (Kd.V_elderB (by (with_reducible repeat (first | apply Kd.V_alloc | apply Kd.V_drewN | apply Kd.V_drew)); exact HO0.out) gb128 (Nat.le_of_eq hg.symm)) hb); have n1_ := Aside0.mk (below_step (by repeat (first | (with_reducible first | exact HB.out | apply below_alloc | apply pw_below_drewN | apply below_drew1) | exact HB.out)) hb); have n2_ := Aside0.mk (hbox); have n3_ := Aside0.mk ((by rw [hg]; exact (below_size (by repeat (first | (with_reducible first | exact HB.out | apply below_alloc | apply pw_below_drewN | apply below_drew1) | exact HB.out))) : w.heap.size ≤ gb128)); have n4_ := Aside0.mk ((by rw [hg]; exact (below_size (by repeat (first | (with_reducible first | exact HB.out | apply below_alloc | apply pw_below_drewN | apply below_drew1) | exact HB.out))) : w.heap.size ≤ gb128)); clear HO0; clear HB; have HO0 := n0_; have HB := n1_; have BK128 := n2_; have GW128 := n3_; have GE128 := n4_; clear n0_ n1_ n2_ n3_ n4_; clear hb hbox hg))
  repeat (go_quiet (first | ((with_reducible refine gate_dst (N := 3) rfl ?_); refine box_event ?hg (N := 3) ?hd (cs := #[.string a1_0, .int .u16 a1_1, .int .u16 a1_2]) (t := 25) ?hr ?_; (case hd => rfl); (case hg => rfl); (case hr => first | (go_simp; done) | (go_simp; rfl)); intro gb128 hg w3 hbox hb; have n0_ := Aside0.mk (Kd.V_below (Kd.V_elderB (by (with_reducible repeat (first | apply Kd.V_alloc | apply Kd.V_drewN | apply Kd.V_drew)); exact HO0.out) gb128 (Nat.le_of_eq hg.symm)) hb); have n1_ := Aside0.mk (below_step (by repeat (first | (with_reducible first | exact HB.out | apply below_alloc | apply pw_below_drewN | apply below_drew1) | exact HB.out)) hb); have n2_ := Aside0.mk (hbox); have n3_ := Aside0.mk ((by rw [hg]; exact (below_size (by repeat (first | (with_reducible first | exact HB.out | apply below_alloc | apply pw_below_drewN | apply below_drew1) | exact HB.out))) : w.heap.size ≤ gb128)); have n4_ := Aside0.mk ((by rw [hg]; exact (below_size (by repeat (first | (with_reducible first | exact HB.out | apply below_alloc | apply pw_below_drewN | apply below_drew1) | exact HB.out))) : w.heap.size ≤ gb128)); clear HO0; clear HB; have HO0 := n0_; have HB := n1_; have BK128 := n2_; have GW128 := n3_; have GE128 := n4_; clear n0_ n1_ n2_ n3_ n4_; clear hb hbox hg)); try go_wp2_with (first | ((with_reducible refine gate_dst (N := 3) rfl ?_); refine box_event ?hg (N := 3) ?hd (cs := #[.string a1_0, .int .u16 a1_1, .int .u16 a1_2]) (t := 25) ?hr ?_; (case hd => rfl); (case hg => rfl); (case hr => first | (go_simp; done) | (go_simp; rfl)); intro gb128 hg w3 hbox hb; have n0_ := Aside0.mk (Kd.V_below (Kd.V_elderB (by (with_reducible repeat (first | apply Kd.V_alloc | apply Kd.V_drewN | apply Kd.V_drew)); exact HO0.out) gb128 (Nat.le_of_eq hg.symm)) hb); have n1_ := Aside0.mk (below_step (by repeat (first | (with_reducible first | exact HB.out | apply below_alloc | apply pw_below_drewN | apply below_drew1) | exact HB.out)) hb); have n2_ := Aside0.mk (hbox); have n3_ := Aside0.mk ((by rw [hg]; exact (below_size (by repeat (first | (with_reducible first | exact HB.out | apply below_alloc | apply pw_below_drewN | apply below_drew1) | exact HB.out))) : w.heap.size ≤ gb128)); have n4_ := Aside0.mk ((by rw [hg]; exact (below_size (by repeat (first | (with_reducible first | exact HB.out | apply below_alloc | apply pw_below_drewN | apply below_drew1) | exact HB.out))) : w.heap.size ≤ gb128)); clear HO0; clear HB; have HO0 := n0_; have HB := n1_; have BK128 := n2_; have GW128 := n3_; have GE128 := n4_; clear n0_ n1_ n2_ n3_ n4_; clear hb hbox hg)))
  go_loopg [6, 7] k (fun kq v6 v7 w' => ∃ (x6_1 : List (S35)) (x7_1 : Int), v7 = .int .i64 x7_1 ∧ Aside0 (derrickref13_Drop.l0 kq l0 x6_1 x7_1 a1_0 a1_1 a1_2 = some (r1, r2)) ∧ Aside0 (kq ≤ k) ∧ Aside0 (Kd.V k35 35 w' w.heap.size (fun k_ => (P0_ k_ ∨ w.heap.size ≤ k_) ∧ some k_ ≠ (v6 : Value).ownBlock ∧ k_ ≠ gb128) (.slice A0 l0.length c0) l0) ∧ Aside0 (Kd.N k35 35 w' w.heap.size (fun k_ => (P0_ k_ ∨ w.heap.size ≤ k_) ∧ k_ ≠ gb128) v6 x6_1) ∧ Aside0 (w'.heap[gb128]? = some (.cells #[.string a1_0, .int .u16 a1_1, .int .u16 a1_2] 25 (0, 0))) ∧ Aside0 (Below w.heap.size w w'))
  case atStart => exact ⟨(([] : List (S35))), (0), (by first | rfl | (simp; done) | (simp [*]; done)), H', ⟨Nat.le_refl _⟩, ⟨by (with_reducible repeat (first | apply Kd.V_alloc | apply Kd.V_drewN | apply Kd.V_drew)); exact Kd.V_mono HO0.out (fun _ hk => ⟨hk.1, ⟨(by simp [Value.ownBlock]), hk.2⟩⟩)⟩, ⟨by first | exact Kd.S_nil _ _ _ _ _ | exact Kd.N_nil _ _ _ _ _ | exact Kd.V_nil _ _ _ _ _ | exact Kd.Q_nil _ _ _ _ _ | exact Kd.R_nil _ _ _ _ _⟩, ⟨by (with_reducible repeat (first | refine blk_drewN ?_ _ | refine blk_drew ?_ | refine blk_alloc ?_ _)); exact BK128.out⟩, ⟨by repeat (first | (with_reducible first | exact HB.out | apply below_alloc | apply pw_below_drewN | apply below_drew1 | refine below_set ?_ GE128.out) | exact HB.out)⟩⟩
  case round =>
    clear H'
    try clear c2
    try clear p2
    obtain ⟨x6_1, x7_1, rfl, HA, HK1, HO_0, HO_6, BK128, HB⟩ := hrel
    cases gk with
    | zero => exact absurd HA.out (by simp [derrickref13_Drop.l0])
    | succ k1 =>
      have H := HA.out
      clear HA
      simp only [derrickref13_Drop.l0] at H
      by_cases c4 : x7_1 < (l0.length : Int)
      · rw [if_pos c4] at H
        have c4b0 : decide (x7_1 < (l0.length : Int)) = true := decide_eq_true c4
        clear c4
        by_cases c5 : 0 ≤ x7_1
        · rw [if_pos c5] at H
          have c5b0 : decide (0 ≤ x7_1) = true := decide_eq_true c5
          clear c5
          by_cases c6 : (!((((rd_T35 l0 x7_1).f0.f0).toList) == a1_0.toList) || (!(((rd_T35 l0 x7_1).f0.f1) == a1_1) || (!(((rd_T35 l0 x7_1).f0.f2) == a1_2)))) = true
          · rw [if_pos c6] at H
            have c6b0 : (!((((rd_T35 l0 x7_1).f0.f0).toList) == a1_0.toList) || (!(((rd_T35 l0 x7_1).f0.f1) == a1_1) || (!(((rd_T35 l0 x7_1).f0.f2) == a1_2)))) = true := c6
            clear c6
            by_cases c7 : x6_1.length < 1954687338268
            · rw [if_pos c7] at H
              have LMc7 := Aside0.mk c7
              clear c7
              obtain ⟨y131, hy131⟩ : ∃ y_ : List (S35), y_ = (x6_1 ++ [(⟨(⟨(rd_T35 l0 x7_1).f0.f0, (rd_T35 l0 x7_1).f0.f1, (rd_T35 l0 x7_1).f0.f2⟩ : S25), (rd_T35 l0 x7_1).f1, (rd_T35 l0 x7_1).f2, (rd_T35 l0 x7_1).f3, (rd_T35 l0 x7_1).f4⟩ : S35)]) := ⟨_, rfl⟩
              replace H : (derrickref13_Drop.l0 k1 l0 y131 (wrap64 (x7_1 + 1)) a1_0 a1_1 a1_2) = some (r1, r2) := by first | (rw [hy131]; with_reducible exact H) | (have H2_ := (Option.bind_some _ _).symm.trans H; rw [hy131]; with_reducible exact H2_) | (have H2_ := (Option.bind_some _ _).symm.trans H; with_reducible exact H2_) | with_reducible exact H | (rw [hy131]; exact H) | exact H
              have Ny131 := Aside0.mk hy131
              clear hy131
              have H' := Aside0.mk H
              clear H
              have p129 : 0 ≤ (x7_1 : Int) := of_decide_eq_true (by first | (with_reducible assumption) | assumption)
              have q129 : x7_1 < (l0.length : Int) := of_decide_eq_true (by first | (with_reducible assumption) | assumption)
              obtain ⟨ad129, A129_3, c129_3, e129, hx129_0, hx129_1, hx129_2, hx129_3, hx129_4, hx129_5, hx129_6, hl129_3, hi129_3⟩ := at_T35 (Kd.V_reads' HO_0.out).2.2 x7_1 p129 q129
              cases e129
              obtain ⟨ce129, hce129, hMe129, hcc129⟩ := Kd.V_get HO_0.out z35 x7_1 p129 (by first | exact q129 | exact of_decide_eq_true (by first | (with_reducible assumption) | assumption) | (have e_ := (Kd.V_reads' HO_0.out).1; omega))
              obtain ⟨ua129_3, uc129_3, rfl, ul129_3, ge129_3⟩ := k35_openF hMe129
              have hv129_3 := hcc129 3 _ rfl
              rw [add_field _ _ 3 (by omega)] at hv129_3
              replace hv129_3 := Option.some.inj (hv129_3.symm.trans hx129_3)
              injection hv129_3 with hva_ hvn_ hvc_
              rw [hva_] at ge129_3
              rw [hvc_] at ul129_3
              have HL129_3 := Aside0.mk (show Kd.V k70 70 _ w.heap.size _ _ ((rd_T35 l0 x7_1).f1) from Kd.V_mk ul129_3 ge129_3)
              clear hva_ hvn_ hvc_ ge129_3 ul129_3
              clear hcc129 hce129
              have HR129_3 := Aside0.mk hi129_3
              have HC129_3 := Aside0.mk hl129_3
              clear hi129_3 hl129_3
              replace p129 := eq_true p129
              replace q129 := eq_true q129
              have hcz8_0 : wr.cell? ⟨gb128, 0, none⟩ = some (.string a1_0) := (blk_cell BK128.out 0).trans rfl
              have hcz8_1 : wr.cell? ⟨gb128, 1, none⟩ = some (.int .u16 a1_1) := (blk_cell BK128.out 1).trans rfl
              have hcz8_2 : wr.cell? ⟨gb128, 2, none⟩ = some (.int .u16 a1_2) := (blk_cell BK128.out 2).trans rfl
              have hfz8_0 := blk_frozen BK128.out 0
              have hfz8_1 := blk_frozen BK128.out 1
              have hfz8_2 := blk_frozen BK128.out 2
              have p130 : 0 ≤ (x7_1 : Int) := of_decide_eq_true (by first | (with_reducible assumption) | assumption)
              have q130 : x7_1 < (l0.length : Int) := of_decide_eq_true (by first | (with_reducible assumption) | assumption)
              obtain ⟨ad130, A130_3, c130_3, e130, hx130_0, hx130_1, hx130_2, hx130_3, hx130_4, hx130_5, hx130_6, hl130_3, hi130_3⟩ := at_T35 (Kd.V_reads' HO_0.out).2.2 x7_1 p130 q130
              obtain rfl : ad129 = ad130 := (by injection e130)
              obtain ⟨ce130, hce130, hMe130, hcc130⟩ := Kd.V_get HO_0.out z35 x7_1 p130 (by first | exact q130 | exact of_decide_eq_true (by first | (with_reducible assumption) | assumption) | (have e_ := (Kd.V_reads' HO_0.out).1; omega))
              obtain ⟨ua130_3, uc130_3, rfl, ul130_3, ge130_3⟩ := k35_openF hMe130
              have hv130_3 := hcc130 3 _ rfl
              rw [add_field _ _ 3 (by omega)] at hv130_3
              replace hv130_3 := Option.some.inj (hv130_3.symm.trans hx130_3)
              injection hv130_3 with hva_ hvn_ hvc_
              rw [hva_] at ge130_3
              rw [hvc_] at ul130_3
              have HL130_3 := Aside0.mk (show Kd.V k70 70 _ w.heap.size _ _ ((rd_T35 l0 x7_1).f1) from Kd.V_mk ul130_3 ge130_3)
              clear hva_ hvn_ hvc_ ge130_3 ul130_3
              clear hcc130 hce130
              have HR130_3 := Aside0.mk hi130_3
              have HC130_3 := Aside0.mk hl130_3
              clear hi130_3 hl130_3
              replace p130 := eq_true p130
              replace q130 := eq_true q130
              have ea_ := Option.some.inj (hx129_3.symm.trans hx130_3)
              injection ea_ with ea_ en_ ec_
              subst ea_
              subst ec_
              clear en_
              go_wp2_with fail
              go_quiet (fail)
              go_wp2_with (first | ((with_reducible refine gate_builtin (b := .append) (xs := #[.tmp 21, .tmp 26]) rfl ?_); at_builtin; refine Kd.N_append k35 (w0 := w) w.heap.size rfl (.tmp 21) (.tmp 26) 29 35 (.agg #[(.string ⟨#[]⟩), (.int .u16 0), (.int .u16 0), (.slice none 0 0), (.int .i64 0), (.int .i64 0), (.int .u64 0)]) 72 rfl Try.underlying29 info35 rfl (by decide) (by omega) u6 x6_1 (⟨(⟨(rd_T35 l0 x7_1).f0.f0, (rd_T35 l0 x7_1).f0.f1, (rd_T35 l0 x7_1).f0.f2⟩ : S25), (rd_T35 l0 x7_1).f1, (rd_T35 l0 x7_1).f2, (rd_T35 l0 x7_1).f3, (rd_T35 l0 x7_1).f4⟩ : S35) [.string ((rd_T35 l0 x7_1).f0.f0), .int .u16 ((rd_T35 l0 x7_1).f0.f1), .int .u16 ((rd_T35 l0 x7_1).f0.f2), .slice A129_3 ((rd_T35 l0 x7_1).f1).length c129_3, .int .i64 ((rd_T35 l0 x7_1).f2), .int .i64 ((rd_T35 l0 x7_1).f3), .int .u64 ((rd_T35 l0 x7_1).f4)] (fun k_ => (P0_ k_ ∨ w.heap.size ≤ k_) ∧ k_ ≠ gb128) (fun k_ => ((fun k_ => (P0_ k_ ∨ w.heap.size ≤ k_) ∧ k_ ≠ gb128)) k_ ∧ some k_ ≠ (u6 : Value).ownBlock) rfl rfl ?aP (fun _ hk => hk) ?aF ?aO ?aB ?aS ?aL ?_; (case aP => exact (k35_mkF _ _ (⟨(⟨(rd_T35 l0 x7_1).f0.f0, (rd_T35 l0 x7_1).f0.f1, (rd_T35 l0 x7_1).f0.f2⟩ : S25), (rd_T35 l0 x7_1).f1, (rd_T35 l0 x7_1).f2, (rd_T35 l0 x7_1).f3, (rd_T35 l0 x7_1).f4⟩ : S35) (Kd.V_reads' (Kd.V_mono (ok' := (fun k_ => ((fun k_ => (P0_ k_ ∨ w.heap.size ≤ k_) ∧ k_ ≠ gb128)) k_ ∧ some k_ ≠ (u6 : Value).ownBlock)) (HL130_3.out) (fun k_ hk => ⟨⟨hk.1, hk.2.2⟩, hk.2.1⟩))).2.1 (Kd.V_F (Kd.V_mono (ok' := (fun k_ => ((fun k_ => (P0_ k_ ∨ w.heap.size ≤ k_) ∧ k_ ≠ gb128)) k_ ∧ some k_ ≠ (u6 : Value).ownBlock)) (Kd.V_drewN (HL130_3.out) _) (fun k_ hk => ⟨⟨hk.1, hk.2.2⟩, hk.2.1⟩))))); (case aB => exact (by repeat (first | (with_reducible first | exact HB.out | apply below_alloc | apply pw_below_drewN | apply below_drew1 | refine below_set ?_ GE128.out) | exact HB.out))); (case aF => exact (fun k_ hk => ⟨(.inr (Nat.le_trans (below_size (by repeat (first | (with_reducible first | exact HB.out | apply below_alloc | apply pw_below_drewN | apply below_drew1 | refine below_set ?_ GE128.out) | exact HB.out))) hk)), Kd.freshB (g := gb128) (o := .cells #[.string a1_0, .int .u16 a1_1, .int .u16 a1_2] 25 (0, 0)) (by (with_reducible repeat (first | refine blk_drewN ?_ _ | refine blk_drew ?_ | refine blk_alloc ?_ _)); exact BK128.out) k_ hk⟩)); (case aO => exact (by (with_reducible repeat (first | apply Kd.N_alloc | apply Kd.N_drewN | apply Kd.N_drew)); exact HO_6.out)); (case aS => exact (below_size (by repeat (first | (with_reducible first | exact HB.out | apply below_alloc | apply pw_below_drewN | apply below_drew1 | refine below_set ?_ GE128.out) | exact HB.out)))); (case aL => have := LMc7.out; omega); intro v132 w9 ho hb hg hat; rw [← Ny131.out] at ho; have n0_ := Aside0.mk (Kd.V_afterv (ok := (fun k_ => (P0_ k_ ∨ w.heap.size ≤ k_) ∧ k_ ≠ gb128)) (by (with_reducible repeat (first | apply Kd.V_alloc | apply Kd.V_drewN | apply Kd.V_drew)); exact Kd.V_mono HO_0.out (fun _ hk => ⟨⟨hk.1, hk.2.2⟩, hk.2.1⟩)) hg hat); have n1_ := Aside0.mk (blk_grown (g := gb128) (o := .cells #[.string a1_0, .int .u16 a1_1, .int .u16 a1_2] 25 (0, 0)) (by (with_reducible repeat (first | refine blk_drewN ?_ _ | refine blk_drew ?_ | refine blk_alloc ?_ _)); exact BK128.out) hg (Kd.N_ne HO_6.out BK128.out (by decide))); have n2_ := Aside0.mk (Kd.V_afterv (ok := (fun k_ => (P0_ k_ ∨ w.heap.size ≤ k_) ∧ k_ ≠ gb128)) (by (with_reducible repeat (first | apply Kd.V_alloc | apply Kd.V_drewN | apply Kd.V_drew)); exact Kd.V_mono HL129_3.out (fun _ hk => ⟨⟨hk.1, hk.2.2⟩, hk.2.1⟩)) hg hat); have n3_ := Aside0.mk (Kd.V_afterv (ok := (fun k_ => (P0_ k_ ∨ w.heap.size ≤ k_) ∧ k_ ≠ gb128)) (by (with_reducible repeat (first | apply Kd.V_alloc | apply Kd.V_drewN | apply Kd.V_drew)); exact Kd.V_mono HL130_3.out (fun _ hk => ⟨⟨hk.1, hk.2.2⟩, hk.2.1⟩)) hg hat); have n4_ := Aside0.mk (hb); have n5_ := Aside0.mk (ho); clear HO_0; clear BK128; clear HL129_3; clear HL130_3; clear HB; clear HO_6; have HO_0 := n0_; have BK128 := n1_; have HL129_3 := n2_; have HL130_3 := n3_; have HB := n4_; have HO133 := n5_; clear n0_ n1_ n2_ n3_ n4_ n5_; clear ho hb hg hat))
              go_roundg k1
              case measure => have := HK1.out; omega
              case rel => exact ⟨(y131), (wrap64 (x7_1 + 1)), (by first | rfl | (simp; done) | (simp [*]; done)), H', ⟨by have := HK1.out; omega⟩, ⟨by (with_reducible repeat (first | apply Kd.V_alloc | apply Kd.V_drewN | apply Kd.V_drew)); exact Kd.V_mono HO_0.out (fun _ hk => ⟨hk.1.1, ⟨hk.2, hk.1.2⟩⟩)⟩, ⟨by (with_reducible repeat (first | apply Kd.N_alloc | apply Kd.N_drewN | apply Kd.N_drew)); exact HO133.out⟩, ⟨by (with_reducible repeat (first | refine blk_drewN ?_ _ | refine blk_drew ?_ | refine blk_alloc ?_ _)); exact BK128.out⟩, ⟨by repeat (first | (with_reducible first | exact HB.out | apply below_alloc | apply pw_below_drewN | apply below_drew1 | refine below_set ?_ GE128.out) | exact HB.out)⟩⟩
            · rw [if_neg c7] at H
              exact absurd H (by simp)
          · rw [if_neg c6] at H
            have c6b0 : (!((((rd_T35 l0 x7_1).f0.f0).toList) == a1_0.toList) || (!(((rd_T35 l0 x7_1).f0.f1) == a1_1) || (!(((rd_T35 l0 x7_1).f0.f2) == a1_2)))) = false := by simpa using c6
            clear c6
            have H' := Aside0.mk H
            clear H
            have p129 : 0 ≤ (x7_1 : Int) := of_decide_eq_true (by first | (with_reducible assumption) | assumption)
            have q129 : x7_1 < (l0.length : Int) := of_decide_eq_true (by first | (with_reducible assumption) | assumption)
            obtain ⟨ad129, A129_3, c129_3, e129, hx129_0, hx129_1, hx129_2, hx129_3, hx129_4, hx129_5, hx129_6, hl129_3, hi129_3⟩ := at_T35 (Kd.V_reads' HO_0.out).2.2 x7_1 p129 q129
            cases e129
            obtain ⟨ce129, hce129, hMe129, hcc129⟩ := Kd.V_get HO_0.out z35 x7_1 p129 (by first | exact q129 | exact of_decide_eq_true (by first | (with_reducible assumption) | assumption) | (have e_ := (Kd.V_reads' HO_0.out).1; omega))
            obtain ⟨ua129_3, uc129_3, rfl, ul129_3, ge129_3⟩ := k35_openF hMe129
            have hv129_3 := hcc129 3 _ rfl
            rw [add_field _ _ 3 (by omega)] at hv129_3
            replace hv129_3 := Option.some.inj (hv129_3.symm.trans hx129_3)
            injection hv129_3 with hva_ hvn_ hvc_
            rw [hva_] at ge129_3
            rw [hvc_] at ul129_3
            have HL129_3 := Aside0.mk (show Kd.V k70 70 _ w.heap.size _ _ ((rd_T35 l0 x7_1).f1) from Kd.V_mk ul129_3 ge129_3)
            clear hva_ hvn_ hvc_ ge129_3 ul129_3
            clear hcc129 hce129
            have HR129_3 := Aside0.mk hi129_3
            have HC129_3 := Aside0.mk hl129_3
            clear hi129_3 hl129_3
            replace p129 := eq_true p129
            replace q129 := eq_true q129
            have hcz10_0 : wr.cell? ⟨gb128, 0, none⟩ = some (.string a1_0) := (blk_cell BK128.out 0).trans rfl
            have hcz10_1 : wr.cell? ⟨gb128, 1, none⟩ = some (.int .u16 a1_1) := (blk_cell BK128.out 1).trans rfl
            have hcz10_2 : wr.cell? ⟨gb128, 2, none⟩ = some (.int .u16 a1_2) := (blk_cell BK128.out 2).trans rfl
            have hfz10_0 := blk_frozen BK128.out 0
            have hfz10_1 := blk_frozen BK128.out 1
            have hfz10_2 := blk_frozen BK128.out 2
            go_wp2
            repeat (go_quiet (fail); try go_wp2)
            go_roundg k1
            case measure => have := HK1.out; omega
            case rel => exact ⟨(x6_1), (wrap64 (x7_1 + 1)), (by first | rfl | (simp; done) | (simp [*]; done)), H', ⟨by have := HK1.out; omega⟩, ⟨by (with_reducible repeat (first | apply Kd.V_alloc | apply Kd.V_drewN | apply Kd.V_drew)); exact HO_0.out⟩, ⟨by (with_reducible repeat (first | apply Kd.N_alloc | apply Kd.N_drewN | apply Kd.N_drew)); exact HO_6.out⟩, ⟨by (with_reducible repeat (first | refine blk_drewN ?_ _ | refine blk_drew ?_ | refine blk_alloc ?_ _)); exact BK128.out⟩, ⟨by repeat (first | (with_reducible first | exact HB.out | apply below_alloc | apply pw_below_drewN | apply below_drew1 | refine below_set ?_ GE128.out) | exact HB.out)⟩⟩
        · rw [if_neg c5] at H
          exact absurd H (by simp)
      · rw [if_neg c4] at H
        have c4b0 : decide (x7_1 < (l0.length : Int)) = false := decide_eq_false c4
        clear c4
        simp only [Option.some.injEq, Prod.mk.injEq] at H
        obtain ⟨rfl, rfl⟩ := H
        obtain ⟨Ao11, co11, eo11⟩ := Kd.N_slice HO_6.out
        subst eo11
        go_wp2
        repeat (go_quiet (fail); try go_wp2)
        go_ret2
        exact ⟨_, by first | rfl | (simp [errW_none, errW_some] <;> rfl) | (simp [*, errW_none, errW_some] <;> rfl), by (with_reducible repeat (first | apply Kd.N_alloc | apply Kd.N_drewN | apply Kd.N_drew)); exact Kd.N_mono HO_6.out (fun _ hk => hk.1), by repeat (first | (with_reducible first | exact HB.out | apply below_alloc | apply pw_below_drewN | apply below_drew1 | refine below_set ?_ GE128.out) | exact HB.out)⟩

end Go.Proofs.Ytnikhiegnledlaa.PPM
