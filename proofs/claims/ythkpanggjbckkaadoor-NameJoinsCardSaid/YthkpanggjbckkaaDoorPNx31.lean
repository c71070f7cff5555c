-- Written by a program for this claim: functions of the given program as Lean functions, and their contracts.
import Derived.Test.YthkpanggjbckkaaDoorPNx0
import Derived.Test.YthkpanggjbckkaaDoorPNx1
import Derived.Test.YthkpanggjbckkaaDoorPNx2
import Derived.Test.YthkpanggjbckkaaDoorPNx4
import Derived.Test.YthkpanggjbckkaaDoorPNx15
import Derived.Test.YthkpanggjbckkaaDoorPNx23
import Derived.Test.YthkpanggjbckkaaDoorGJ
namespace Go.Proofs.YthkpanggjbckkaaDoor.PN
open Go.RowKit Go.Proofs.YthkpanggjbckkaaDoorW.PrintWords Go.Proofs.YthkpanggjbckkaaDoorW.PrintLast Go.Proofs.YthkpanggjbckkaaDoorW.PrintMore
attribute [local go_sem] max2_int min2_int max_two min_two max_three min_three max_four min_four   -- for this text's walks alone
set_option linter.unusedVariables false
set_option linter.unusedSimpArgs false

/-! ### derricklaw02_NameJoins: function 9 -/
mutual
def derricklaw02_NameJoins.j0 : Nat → List ByteArray → ByteArray → Bool → Bool → Option (Bool)
  | 0, _, _, _, _ => none
  | k + 1, x0, x1, x5, x21 => if x21 = true then (some x5) else ((name_Join.f x0).bind fun bt309 => (derricklaw02_NameJoins.l0 k x0 x1 x5 bt309.1 bt309.2 1 true 0))
def derricklaw02_NameJoins.l0 : Nat → List ByteArray → ByteArray → Bool → ByteArray → Int → Int → Bool → Int → Option (Bool)
  | 0, _, _, _, _, _, _, _, _ => none
  | k + 1, x0, x1, x5, x6, x7, x8, x9, x10 => if x10 < (x0.length : Int) then (if 0 ≤ x10 then (if x9 = true then (if ((rdOf ByteArray.empty x0 x10).size : Int) ≥ 1 then (derricklaw02_NameJoins.l0 k x0 x1 x5 x6 x7 (wrap64 ((wrap64 (x8 + 1)) + ((rdOf ByteArray.empty x0 x10).size : Int))) (decide (((rdOf ByteArray.empty x0 x10).size : Int) ≤ 63)) (wrap64 (x10 + 1))) else (derricklaw02_NameJoins.l0 k x0 x1 x5 x6 x7 (wrap64 ((wrap64 (x8 + 1)) + ((rdOf ByteArray.empty x0 x10).size : Int))) false (wrap64 (x10 + 1)))) else (derricklaw02_NameJoins.l0 k x0 x1 x5 x6 x7 (wrap64 ((wrap64 (x8 + 1)) + ((rdOf ByteArray.empty x0 x10).size : Int))) false (wrap64 (x10 + 1)))) else (none)) else ((name_Take.f k x1).bind fun bt314 => (if x5 = true then (if x9 = true then (if ((x7 == 0) == (decide (x8 ≤ 255))) = true then (if x7 = 0 then ((name_May.f x6).bind fun t316 => (if t316 = true then ((name_Depth.f x6).bind fun t317 => (if t317 = (x0.length : Int) then (if (x6.size : Int) = x8 then ((name_May.f bt314.1).bind fun t318 => (some ((bt314.2 == 0) == t318))) else (some false)) else (some false))) else (some false))) else (if x6.toList = ([] : List UInt8) then ((name_May.f bt314.1).bind fun t319 => (some ((bt314.2 == 0) == t319))) else (some false))) else (some false)) else (if ((x7 == 0) == false) = true then (if x7 = 0 then ((name_May.f x6).bind fun t320 => (if t320 = true then ((name_Depth.f x6).bind fun t321 => (if t321 = (x0.length : Int) then (if (x6.size : Int) = x8 then ((name_May.f bt314.1).bind fun t322 => (some ((bt314.2 == 0) == t322))) else (some false)) else (some false))) else (some false))) else (if x6.toList = ([] : List UInt8) then ((name_May.f bt314.1).bind fun t323 => (some ((bt314.2 == 0) == t323))) else (some false))) else (some false))) else (some false)))
end
def derricklaw02_NameJoins.f (k : Nat) (l0 : List ByteArray) (a1 : ByteArray) : Option (Bool) := (derricklaw02_shown.f).bind fun t307 => ((derricklaw02_few.f k l0).bind fun t308 => (if t308 = true then (derricklaw02_NameJoins.j0 k l0 a1 t307 (decide ((a1.size : Int) > 1000))) else (derricklaw02_NameJoins.j0 k l0 a1 t307 true)))
theorem derricklaw02_NameJoins.mono_l : ∀ k, (∀ y0 y1 y2 y3, LeO (derricklaw02_NameJoins.j0 k y0 y1 y2 y3) (derricklaw02_NameJoins.j0 (k + 1) y0 y1 y2 y3)) ∧ (∀ y0 y1 y2 y3 y4 y5 y6 y7, LeO (derricklaw02_NameJoins.l0 k y0 y1 y2 y3 y4 y5 y6 y7) (derricklaw02_NameJoins.l0 (k + 1) y0 y1 y2 y3 y4 y5 y6 y7))
  | 0 => ⟨fun _ _ _ _ r h => by simp [derricklaw02_NameJoins.j0] at h, fun _ _ _ _ _ _ _ _ r h => by simp [derricklaw02_NameJoins.l0] at h⟩
  | k + 1 => by
    obtain ⟨ih0, ih1⟩ := derricklaw02_NameJoins.mono_l k
    refine ⟨?_, ?_⟩
    · intro y0 y1 y2 y3
      unfold derricklaw02_NameJoins.j0
      repeat' first
      | (with_reducible exact ih0 _ _ _ _)
      | (with_reducible exact ih1 _ _ _ _ _ _ _ _)
      | (with_reducible exact derricklaw02_few.mono _ _)
      | (with_reducible exact name_Take.mono _ _)
      | (with_reducible exact LeO.refl _)
      | (with_reducible exact LeO.none _)
      | (with_reducible refine LeO.ite ?_ ?_)
      | (with_reducible refine LeO.bind ?_ (fun _ => ?_))
      | exact ih0 _ _ _ _
      | exact ih1 _ _ _ _ _ _ _ _
      | exact derricklaw02_few.mono _ _
      | exact name_Take.mono _ _
      | exact LeO.none _
      | refine LeO.ite ?_ ?_
      | refine LeO.bind ?_ (fun _ => ?_)
    · intro y0 y1 y2 y3 y4 y5 y6 y7
      unfold derricklaw02_NameJoins.l0
      repeat' first
      | (with_reducible exact ih0 _ _ _ _)
      | (with_reducible exact ih1 _ _ _ _ _ _ _ _)
      | (with_reducible exact derricklaw02_few.mono _ _)
      | (with_reducible exact name_Take.mono _ _)
      | (with_reducible exact LeO.refl _)
      | (with_reducible exact LeO.none _)
      | (with_reducible refine LeO.ite ?_ ?_)
      | (with_reducible refine LeO.bind ?_ (fun _ => ?_))
      | exact ih0 _ _ _ _
      | exact ih1 _ _ _ _ _ _ _ _
      | exact derricklaw02_few.mono _ _
      | exact name_Take.mono _ _
      | exact LeO.none _
      | refine LeO.ite ?_ ?_
      | refine LeO.bind ?_ (fun _ => ?_)
theorem derricklaw02_NameJoins.mono : ∀ a0 a1 k, LeO (derricklaw02_NameJoins.f k a0 a1) (derricklaw02_NameJoins.f (k + 1) a0 a1) := by
  intro a0 a1 k
  obtain ⟨ih0, ih1⟩ := derricklaw02_NameJoins.mono_l k
  unfold derricklaw02_NameJoins.f
  repeat' first
      | (with_reducible exact ih0 _ _ _ _)
      | (with_reducible exact ih1 _ _ _ _ _ _ _ _)
      | (with_reducible exact derricklaw02_few.mono _ _)
      | (with_reducible exact name_Take.mono _ _)
      | (with_reducible exact LeO.refl _)
      | (with_reducible exact LeO.none _)
      | (with_reducible refine LeO.ite ?_ ?_)
      | (with_reducible refine LeO.bind ?_ (fun _ => ?_))
      | exact ih0 _ _ _ _
      | exact ih1 _ _ _ _ _ _ _ _
      | exact derricklaw02_few.mono _ _
      | exact name_Take.mono _ _
      | exact LeO.none _
      | refine LeO.ite ?_ ?_
      | refine LeO.bind ?_ (fun _ => ?_)
set_option maxHeartbeats 8000000 in
set_option maxRecDepth 100000 in
theorem derricklaw02_NameJoins.calls (k : Nat) (A0 : Option Addr) (c0 : Nat) (l0 : List ByteArray) (a1 : ByteArray) (r : Bool) (w : World) (hr0 : Kd.C Kd.string w A0 l0.length l0) (hc0 : l0.length ≤ c0) (h : derricklaw02_NameJoins.f k l0 a1 = some r) :
    Calls Tryd.prog 9 #[.slice A0 l0.length c0, .string a1] w fun e w' => e = .returned (.bool r) ∧ Below w.heap.size w w' := by
  have HR0 := Aside0.mk hr0
  have HC0 := Aside0.mk hc0
  clear hr0 hc0
  have HB := Aside0.mk (Below.refl w.heap.size w)
  have H : ((derricklaw02_shown.f).bind fun t307 => ((derricklaw02_few.f k l0).bind fun t308 => (if t308 = true then (derricklaw02_NameJoins.j0 k l0 a1 t307 (decide ((a1.size : Int) > 1000))) else (derricklaw02_NameJoins.j0 k l0 a1 t307 true)))) = some r := h
  clear h
  replace H := Option.bind_eq_some_iff.mp H
  obtain ⟨t307, A30, H⟩ := H
  replace H : ((derricklaw02_few.f k l0).bind fun t308 => (if t308 = true then (derricklaw02_NameJoins.j0 k l0 a1 t307 (decide ((a1.size : Int) > 1000))) else (derricklaw02_NameJoins.j0 k l0 a1 t307 true))) = some r := H
  have A3 := Aside0.mk A30
  clear A30
  have HC4 := Aside0.mk H
  clear H
  go_enter Tryd.func9, Tryd.ntmps9
  go_upto_region 2 with (first | ((with_reducible refine gate_callee (f := 10) rfl ?_); refine goesL_ (some 13) rfl rfl Tryd.func10 (by kernel_rfl) rfl #[] rfl (by (try simp only [List.map_toArray, List.map_cons, List.map_nil]); first | done | rfl | (simp only [List.length_drop, List.length_take]; rfl)) ?_; (with_reducible refine (derricklaw02_shown.calls  t307 _ A3.out).mono ?_); rintro e w5 ⟨rfl, hb⟩; refine ⟨_, rfl, ?_⟩; have n0_ := Aside0.mk (below_step (by repeat (first | (with_reducible first | exact HB.out | apply below_alloc | apply pw_below_drewN | apply below_drew1) | exact HB.out)) hb); clear HB; have HB := n0_; clear n0_; (try clear hb); (try clear hb2); (try clear hk); (try clear hi)))
  (try simp only [Act.put, List.setIfInBounds_toArray, List.set_cons_zero, List.set_cons_succ])
  go_cut [21] (fun v21 wc => ∃ (kq : Nat) (x21_3 : Bool), v21 = .bool x21_3 ∧ Aside0 (derricklaw02_NameJoins.j0 kq l0 a1 t307 x21_3 = some r) ∧ Aside0 (kq ≤ k) ∧ Aside0 (Below w.heap.size w wc))
  case first =>
    have H := HC4.out
    clear HC4
    replace H := Option.bind_eq_some_iff.mp H
    obtain ⟨t308, A60, H⟩ := H
    replace H : (if t308 = true then (derricklaw02_NameJoins.j0 k l0 a1 t307 (decide ((a1.size : Int) > 1000))) else (derricklaw02_NameJoins.j0 k l0 a1 t307 true)) = some r := H
    have A6 := Aside0.mk A60
    clear A60
    by_cases c7 : t308 = true
    · subst c7
      have H1 : (derricklaw02_NameJoins.j0 k l0 a1 t307 (decide ((a1.size : Int) > 1000))) = some r := by rw [if_pos rfl] at H; exact H
      clear H
      have H := H1
      clear H1
      have H' := Aside0.mk H
      clear H
      go_wp2_with (first | ((with_reducible refine gate_callee (f := 13) rfl ?_); refine goesL_ (some 15) rfl rfl Tryd.func13 (by kernel_rfl) rfl #[.slice A0 l0.length c0] rfl (by (try simp only [List.map_toArray, List.map_cons, List.map_nil]); first | done | rfl | (simp only [List.length_drop, List.length_take]; rfl)) ?_; (with_reducible refine (derricklaw02_few.calls k _ _ l0 true _ ?side1 ?side2 A6.out).mono ?_); (case side1 => repeat (first | exact (Kd.C_below HR0.out HB.out) | (with_reducible refine Kd.C_alloc ?_ _) | (with_reducible refine Kd.C_drewN ?_ _) | (with_reducible refine Kd.C_drew ?_))); (case side2 => exact HC0.out); rintro e w' ⟨rfl, ⟨nd, rfl⟩⟩; refine ⟨_, rfl, ?_⟩))
      go_meet
      case rel => exact ⟨_, (decide ((a1.size : Int) > 1000)), (by first | rfl | (simp; done) | (simp [*]; done)), H', ⟨by first | omega | exact Nat.le_refl _⟩, ⟨by repeat (first | (with_reducible first | exact HB.out | apply below_alloc | apply pw_below_drewN | apply below_drew1) | exact HB.out)⟩⟩
    · replace c7 := Bool.eq_false_iff.mpr c7
      subst c7
      have H1 : (derricklaw02_NameJoins.j0 k l0 a1 t307 true) = some r := by rw [if_neg (show ¬ (false = true) by decide)] at H; exact H
      clear H
      have H := H1
      clear H1
      have H' := Aside0.mk H
      clear H
      go_wp2_with (first | ((with_reducible refine gate_callee (f := 13) rfl ?_); refine goesL_ (some 15) rfl rfl Tryd.func13 (by kernel_rfl) rfl #[.slice A0 l0.length c0] rfl (by (try simp only [List.map_toArray, List.map_cons, List.map_nil]); first | done | rfl | (simp only [List.length_drop, List.length_take]; rfl)) ?_; (with_reducible refine (derricklaw02_few.calls k _ _ l0 false _ ?side1 ?side2 A6.out).mono ?_); (case side1 => repeat (first | exact (Kd.C_below HR0.out HB.out) | (with_reducible refine Kd.C_alloc ?_ _) | (with_reducible refine Kd.C_drewN ?_ _) | (with_reducible refine Kd.C_drew ?_))); (case side2 => exact HC0.out); rintro e w' ⟨rfl, ⟨nd, rfl⟩⟩; refine ⟨_, rfl, ?_⟩))
      go_meet
      case rel => exact ⟨_, (true), (by first | rfl | (simp; done) | (simp [*]; done)), H', ⟨by first | omega | exact Nat.le_refl _⟩, ⟨by repeat (first | (with_reducible first | exact HB.out | apply below_alloc | apply pw_below_drewN | apply below_drew1) | exact HB.out)⟩⟩
  case rest =>
    clear HC4
    try clear c1
    try clear p2
    try clear c7
    obtain ⟨kq, x21_3, rfl, HA, HJ3, HB⟩ := hcut
    cases kq with
    | zero => exact absurd HA.out (by simp [derricklaw02_NameJoins.j0])
    | succ kj3 =>
      have H := HA.out
      clear HA
      simp only [derricklaw02_NameJoins.j0] at H
      by_cases c8 : x21_3 = true
      · subst c8
        have H1 : (some t307) = some r := by rw [if_pos rfl] at H; exact H
        clear H
        have H := H1
        clear H1
        obtain rfl := Option.some.inj H
        go_wp2
        go_ret
        exact ⟨by first | rfl | (simp [errW_none, errW_some] <;> rfl) | (simp [*, errW_none, errW_some] <;> rfl), by repeat (first | (with_reducible first | exact HB.out | apply below_alloc | apply pw_below_drewN | apply below_drew1) | exact HB.out)⟩
      · replace c8 := Bool.eq_false_iff.mpr c8
        subst c8
        have H1 : ((name_Join.f l0).bind fun bt309 => (derricklaw02_NameJoins.l0 kj3 l0 a1 t307 bt309.1 bt309.2 1 true 0)) = some r := by rw [if_neg (show ¬ (false = true) by decide)] at H; exact H
        clear H
        have H := H1
        clear H1
        replace H := Option.bind_eq_some_iff.mp H
        obtain ⟨⟨t309, t310⟩, A90, H⟩ := H
        replace H : (derricklaw02_NameJoins.l0 kj3 l0 a1 t307 t309 t310 1 true 0) = some r := H
        have A9 := Aside0.mk A90
        clear A90
        have H' := Aside0.mk H
        clear H
        go_wp2_with (first | ((with_reducible refine gate_callee (f := 16) rfl ?_); refine goesL_ (some 25) rfl rfl Tryd.func16 (by kernel_rfl) rfl #[.slice A0 l0.length c0] rfl (by (try simp only [List.map_toArray, List.map_cons, List.map_nil]); first | done | rfl | (simp only [List.length_drop, List.length_take]; rfl)) ?_; (with_reducible refine (name_Join.calls _ _ l0 t309 t310 _ ?side1 ?side2 A9.out).mono ?_); (case side1 => repeat (first | exact (Kd.C_below HR0.out HB.out) | (with_reducible refine Kd.C_alloc ?_ _) | (with_reducible refine Kd.C_drewN ?_ _) | (with_reducible refine Kd.C_drew ?_))); (case side2 => exact HC0.out); rintro e w10 ⟨rfl, hb⟩; refine ⟨_, rfl, ?_⟩; have n0_ := Aside0.mk (below_step (by repeat (first | (with_reducible first | exact HB.out | apply below_alloc | apply pw_below_drewN | apply below_drew1) | exact HB.out)) hb); clear HB; have HB := n0_; clear n0_; (try clear hb); (try clear hb2); (try clear hk); (try clear hi)))
        go_loopg [8, 9, 10] kj3 (fun kq v8 v9 v10 w' => ∃ (x8_2 : Int) (x9_2 : Bool) (x10_2 : Int), v8 = .int .i64 x8_2 ∧ v9 = .bool x9_2 ∧ v10 = .int .i64 x10_2 ∧ Aside0 (derricklaw02_NameJoins.l0 kq l0 a1 t307 t309 t310 x8_2 x9_2 x10_2 = some r) ∧ Aside0 (kq ≤ kj3) ∧ Aside0 (Below w.heap.size w w'))
        case atStart => exact ⟨(1), (true), (0), (by first | rfl | (simp; done) | (simp [*]; done)), (by first | rfl | (simp; done) | (simp [*]; done)), (by first | rfl | (simp; done) | (simp [*]; done)), H', ⟨Nat.le_refl _⟩, ⟨by repeat (first | (with_reducible first | exact HB.out | apply below_alloc | apply pw_below_drewN | apply below_drew1) | exact HB.out)⟩⟩
        case round =>
          clear H'
          try clear c1
          try clear p2
          try clear c7
          try clear c8
          try clear c9
          try clear c10
          try clear p2
          obtain ⟨x8_2, x9_2, x10_2, rfl, rfl, rfl, HA, HK2, HB⟩ := hrel
          cases gk with
          | zero => exact absurd HA.out (by simp [derricklaw02_NameJoins.l0])
          | succ k2 =>
            have H := HA.out
            clear HA
            simp only [derricklaw02_NameJoins.l0] at H
            by_cases c11 : x10_2 < (l0.length : Int)
            · rw [if_pos c11] at H
              have c11b0 : decide (x10_2 < (l0.length : Int)) = true := decide_eq_true c11
              clear c11
              by_cases c12 : 0 ≤ x10_2
              · rw [if_pos c12] at H
                have c12b0 : decide (0 ≤ x10_2) = true := decide_eq_true c12
                clear c12
                by_cases c13 : x9_2 = true
                · subst c13
                  have H1 : (if ((rdOf ByteArray.empty l0 x10_2).size : Int) ≥ 1 then (derricklaw02_NameJoins.l0 k2 l0 a1 t307 t309 t310 (wrap64 ((wrap64 (x8_2 + 1)) + ((rdOf ByteArray.empty l0 x10_2).size : Int))) (decide (((rdOf ByteArray.empty l0 x10_2).size : Int) ≤ 63)) (wrap64 (x10_2 + 1))) else (derricklaw02_NameJoins.l0 k2 l0 a1 t307 t309 t310 (wrap64 ((wrap64 (x8_2 + 1)) + ((rdOf ByteArray.empty l0 x10_2).size : Int))) false (wrap64 (x10_2 + 1)))) = some r := by rw [if_pos rfl] at H; exact H
                  clear H
                  have H := H1
                  clear H1
                  by_cases c14 : ((rdOf ByteArray.empty l0 x10_2).size : Int) ≥ 1
                  · rw [if_pos c14] at H
                    have c14b0 : decide (1 ≤ ((rdOf ByteArray.empty l0 x10_2).size : Int)) = true := decide_eq_true c14
                    have c14b1 : decide (1 ≤ (rdOf ByteArray.empty l0 x10_2).size) = true := decide_eq_true (by omega)
                    clear c14
                    have H' := Aside0.mk H
                    clear H
                    have p311 : 0 ≤ (x10_2 : Int) := of_decide_eq_true (by first | (with_reducible assumption) | assumption)
                    have q311 : x10_2 < (l0.length : Int) := of_decide_eq_true (by first | (with_reducible assumption) | assumption)
                    obtain ⟨ad311, e311, hx311_0⟩ := Kd.at_string HR0.out x10_2 p311 q311
                    cases e311
                    replace hx311_0 := (HB.out.cell (World.block_lt_of_cell? w _ hx311_0)).trans hx311_0
                    replace p311 := eq_true p311
                    replace q311 := eq_true q311
                    have p312 : 0 ≤ (x10_2 : Int) := of_decide_eq_true (by first | (with_reducible assumption) | assumption)
                    have q312 : x10_2 < (l0.length : Int) := of_decide_eq_true (by first | (with_reducible assumption) | assumption)
                    obtain ⟨ad312, e312, hx312_0⟩ := Kd.at_string HR0.out x10_2 p312 q312
                    obtain rfl : ad311 = ad312 := (by injection e312)
                    replace hx312_0 := (HB.out.cell (World.block_lt_of_cell? w _ hx312_0)).trans hx312_0
                    replace p312 := eq_true p312
                    replace q312 := eq_true q312
                    have p313 : 0 ≤ (x10_2 : Int) := of_decide_eq_true (by first | (with_reducible assumption) | assumption)
                    have q313 : x10_2 < (l0.length : Int) := of_decide_eq_true (by first | (with_reducible assumption) | assumption)
                    obtain ⟨ad313, e313, hx313_0⟩ := Kd.at_string HR0.out x10_2 p313 q313
                    obtain rfl : ad311 = ad313 := (by injection e313)
                    replace hx313_0 := (HB.out.cell (World.block_lt_of_cell? w _ hx313_0)).trans hx313_0
                    replace p313 := eq_true p313
                    replace q313 := eq_true q313
                    go_wp2
                    go_roundg k2
                    case measure => have := HJ3.out; have := HK2.out; omega
                    case rel => exact ⟨(wrap64 ((wrap64 (x8_2 + 1)) + ((rdOf ByteArray.empty l0 x10_2).size : Int))), (decide (((rdOf ByteArray.empty l0 x10_2).size : Int) ≤ 63)), (wrap64 (x10_2 + 1)), (by first | rfl | (simp; done) | (simp [*]; done)), (by first | rfl | (simp; done) | (simp [*]; done)), (by first | rfl | (simp; done) | (simp [*]; done)), H', ⟨by have := HJ3.out; have := HK2.out; omega⟩, ⟨by repeat (first | (with_reducible first | exact HB.out | apply below_alloc | apply pw_below_drewN | apply below_drew1) | exact HB.out)⟩⟩
                  · rw [if_neg c14] at H
                    have c14b0 : decide (1 ≤ ((rdOf ByteArray.empty l0 x10_2).size : Int)) = false := decide_eq_false c14
                    have c14b1 : decide (1 ≤ (rdOf ByteArray.empty l0 x10_2).size) = false := decide_eq_false (by omega)
                    clear c14
                    have H' := Aside0.mk H
                    clear H
                    have p311 : 0 ≤ (x10_2 : Int) := of_decide_eq_true (by first | (with_reducible assumption) | assumption)
                    have q311 : x10_2 < (l0.length : Int) := of_decide_eq_true (by first | (with_reducible assumption) | assumption)
                    obtain ⟨ad311, e311, hx311_0⟩ := Kd.at_string HR0.out x10_2 p311 q311
                    cases e311
                    replace hx311_0 := (HB.out.cell (World.block_lt_of_cell? w _ hx311_0)).trans hx311_0
                    replace p311 := eq_true p311
                    replace q311 := eq_true q311
                    have p312 : 0 ≤ (x10_2 : Int) := of_decide_eq_true (by first | (with_reducible assumption) | assumption)
                    have q312 : x10_2 < (l0.length : Int) := of_decide_eq_true (by first | (with_reducible assumption) | assumption)
                    obtain ⟨ad312, e312, hx312_0⟩ := Kd.at_string HR0.out x10_2 p312 q312
                    obtain rfl : ad311 = ad312 := (by injection e312)
                    replace hx312_0 := (HB.out.cell (World.block_lt_of_cell? w _ hx312_0)).trans hx312_0
                    replace p312 := eq_true p312
                    replace q312 := eq_true q312
                    go_wp2
                    go_roundg k2
                    case measure => have := HJ3.out; have := HK2.out; omega
                    case rel => exact ⟨(wrap64 ((wrap64 (x8_2 + 1)) + ((rdOf ByteArray.empty l0 x10_2).size : Int))), (false), (wrap64 (x10_2 + 1)), (by first | rfl | (simp; done) | (simp [*]; done)), (by first | rfl | (simp; done) | (simp [*]; done)), (by first | rfl | (simp; done) | (simp [*]; done)), H', ⟨by have := HJ3.out; have := HK2.out; omega⟩, ⟨by repeat (first | (with_reducible first | exact HB.out | apply below_alloc | apply pw_below_drewN | apply below_drew1) | exact HB.out)⟩⟩
                · replace c13 := Bool.eq_false_iff.mpr c13
                  subst c13
                  have H1 : (derricklaw02_NameJoins.l0 k2 l0 a1 t307 t309 t310 (wrap64 ((wrap64 (x8_2 + 1)) + ((rdOf ByteArray.empty l0 x10_2).size : Int))) false (wrap64 (x10_2 + 1))) = some r := by rw [if_neg (show ¬ (false = true) by decide)] at H; exact H
                  clear H
                  have H := H1
                  clear H1
                  have H' := Aside0.mk H
                  clear H
                  have p311 : 0 ≤ (x10_2 : Int) := of_decide_eq_true (by first | (with_reducible assumption) | assumption)
                  have q311 : x10_2 < (l0.length : Int) := of_decide_eq_true (by first | (with_reducible assumption) | assumption)
                  obtain ⟨ad311, e311, hx311_0⟩ := Kd.at_string HR0.out x10_2 p311 q311
                  cases e311
                  replace hx311_0 := (HB.out.cell (World.block_lt_of_cell? w _ hx311_0)).trans hx311_0
                  replace p311 := eq_true p311
                  replace q311 := eq_true q311
                  go_wp2
                  go_roundg k2
                  case measure => have := HJ3.out; have := HK2.out; omega
                  case rel => exact ⟨(wrap64 ((wrap64 (x8_2 + 1)) + ((rdOf ByteArray.empty l0 x10_2).size : Int))), (false), (wrap64 (x10_2 + 1)), (by first | rfl | (simp; done) | (simp [*]; done)), (by first | rfl | (simp; done) | (simp [*]; done)), (by first | rfl | (simp; done) | (simp [*]; done)), H', ⟨by have := HJ3.out; have := HK2.out; omega⟩, ⟨by repeat (first | (with_reducible first | exact HB.out | apply below_alloc | apply pw_below_drewN | apply below_drew1) | exact HB.out)⟩⟩
              · rw [if_neg c12] at H
                exact absurd H (by simp)
            · rw [if_neg c11] at H
              have c11b0 : decide (x10_2 < (l0.length : Int)) = false := decide_eq_false c11
              clear c11
              replace H := Option.bind_eq_some_iff.mp H
              obtain ⟨⟨t314, t315⟩, A150, H⟩ := H
              replace H : (if t307 = true then (if x9_2 = true then (if ((t310 == 0) == (decide (x8_2 ≤ 255))) = true then (if t310 = 0 then ((name_May.f t309).bind fun t316 => (if t316 = true then ((name_Depth.f t309).bind fun t317 => (if t317 = (l0.length : Int) then (if (t309.size : Int) = x8_2 then ((name_May.f t314).bind fun t318 => (some ((t315 == 0) == t318))) else (some false)) else (some false))) else (some false))) else (if t309.toList = ([] : List UInt8) then ((name_May.f t314).bind fun t319 => (some ((t315 == 0) == t319))) else (some false))) else (some false)) else (if ((t310 == 0) == false) = true then (if t310 = 0 then ((name_May.f t309).bind fun t320 => (if t320 = true then ((name_Depth.f t309).bind fun t321 => (if t321 = (l0.length : Int) then (if (t309.size : Int) = x8_2 then ((name_May.f t314).bind fun t322 => (some ((t315 == 0) == t322))) else (some false)) else (some false))) else (some false))) else (if t309.toList = ([] : List UInt8) then ((name_May.f t314).bind fun t323 => (some ((t315 == 0) == t323))) else (some false))) else (some false))) else (some false)) = some r := H
              have A15 := Aside0.mk A150
              clear A150
              by_cases c16 : t307 = true
              · subst c16
                have H1 : (if x9_2 = true then (if ((t310 == 0) == (decide (x8_2 ≤ 255))) = true then (if t310 = 0 then ((name_May.f t309).bind fun t316 => (if t316 = true then ((name_Depth.f t309).bind fun t317 => (if t317 = (l0.length : Int) then (if (t309.size : Int) = x8_2 then ((name_May.f t314).bind fun t318 => (some ((t315 == 0) == t318))) else (some false)) else (some false))) else (some false))) else (if t309.toList = ([] : List UInt8) then ((name_May.f t314).bind fun t319 => (some ((t315 == 0) == t319))) else (some false))) else (some false)) else (if ((t310 == 0) == false) = true then (if t310 = 0 then ((name_May.f t309).bind fun t320 => (if t320 = true then ((name_Depth.f t309).bind fun t321 => (if t321 = (l0.length : Int) then (if (t309.size : Int) = x8_2 then ((name_May.f t314).bind fun t322 => (some ((t315 == 0) == t322))) else (some false)) else (some false))) else (some false))) else (if t309.toList = ([] : List UInt8) then ((name_May.f t314).bind fun t323 => (some ((t315 == 0) == t323))) else (some false))) else (some false))) = some r := by rw [if_pos rfl] at H; exact H
                clear H
                have H := H1
                clear H1
                by_cases c17 : x9_2 = true
                · subst c17
                  have H1 : (if ((t310 == 0) == (decide (x8_2 ≤ 255))) = true then (if t310 = 0 then ((name_May.f t309).bind fun t316 => (if t316 = true then ((name_Depth.f t309).bind fun t317 => (if t317 = (l0.length : Int) then (if (t309.size : Int) = x8_2 then ((name_May.f t314).bind fun t318 => (some ((t315 == 0) == t318))) else (some false)) else (some false))) else (some false))) else (if t309.toList = ([] : List UInt8) then ((name_May.f t314).bind fun t319 => (some ((t315 == 0) == t319))) else (some false))) else (some false)) = some r := by rw [if_pos rfl] at H; exact H
                  clear H
                  have H := H1
                  clear H1
                  by_cases c18 : ((t310 == 0) == (decide (x8_2 ≤ 255))) = true
                  · rw [if_pos c18] at H
                    have c18b0 : ((t310 == 0) == (decide (x8_2 ≤ 255))) = true := c18
                    (try (have c18b1 : decide ((t310 == 0) = (decide (x8_2 ≤ 255))) = true := by simpa using c18))
                    (try (have c18b2 : ((t310 == 0) == (decide (x8_2 ≤ 255))) = true := by simpa using c18))
                    clear c18
                    by_cases c19 : t310 = 0
                    · rw [if_pos c19] at H
                      have c19b0 : (t310 == 0) = true := beq_iff_eq.mpr c19
                      have c19d : decide (x8_2 ≤ 255) = true := (eq_of_beq c18b0).symm.trans c19b0
                      have c19b1 : (t310 != 0) = false := bne_eq_false_iff_eq.mpr c19
                      clear c19
                      replace H := Option.bind_eq_some_iff.mp H
                      obtain ⟨t316, A200, H⟩ := H
                      replace H : (if t316 = true then ((name_Depth.f t309).bind fun t317 => (if t317 = (l0.length : Int) then (if (t309.size : Int) = x8_2 then ((name_May.f t314).bind fun t318 => (some ((t315 == 0) == t318))) else (some false)) else (some false))) else (some false)) = some r := H
                      have A20 := Aside0.mk A200
                      clear A200
                      by_cases c21 : t316 = true
                      · subst c21
                        have H1 : ((name_Depth.f t309).bind fun t317 => (if t317 = (l0.length : Int) then (if (t309.size : Int) = x8_2 then ((name_May.f t314).bind fun t318 => (some ((t315 == 0) == t318))) else (some false)) else (some false))) = some r := by rw [if_pos rfl] at H; exact H
                        clear H
                        have H := H1
                        clear H1
                        replace H := Option.bind_eq_some_iff.mp H
                        obtain ⟨t317, A220, H⟩ := H
                        replace H : (if t317 = (l0.length : Int) then (if (t309.size : Int) = x8_2 then ((name_May.f t314).bind fun t318 => (some ((t315 == 0) == t318))) else (some false)) else (some false)) = some r := H
                        have A22 := Aside0.mk A220
                        clear A220
                        by_cases c23 : t317 = (l0.length : Int)
                        · rw [if_pos c23] at H
                          have c23b0 : (t317 == (l0.length : Int)) = true := beq_iff_eq.mpr c23
                          have c23b1 : (t317 != (l0.length : Int)) = false := bne_eq_false_iff_eq.mpr c23
                          clear c23
                          by_cases c24 : (t309.size : Int) = x8_2
                          · rw [if_pos c24] at H
                            have c24b0 : ((t309.size : Int) == x8_2) = true := beq_iff_eq.mpr c24
                            have c24b1 : ((t309.size : Int) != x8_2) = false := bne_eq_false_iff_eq.mpr c24
                            clear c24
                            replace H := Option.bind_eq_some_iff.mp H
                            obtain ⟨t318, A250, H⟩ := H
                            replace H : (some ((t315 == 0) == t318)) = some r := H
                            have A25 := Aside0.mk A250
                            clear A250
                            obtain rfl := Option.some.inj H
                            go_wp2_with (first | ((with_reducible refine gate_callee (f := 27) rfl ?_); refine goesL_ (some 61) rfl rfl Tryd.func27 (by kernel_rfl) rfl #[.string a1] rfl (by (try simp only [List.map_toArray, List.map_cons, List.map_nil]); first | done | rfl | (simp only [List.length_drop, List.length_take]; rfl)) ?_; (with_reducible refine (name_Take.calls k2 a1 t314 t315 _ A15.out).mono ?_); rintro e w26 ⟨rfl, hb⟩; refine ⟨_, rfl, ?_⟩; have n0_ := Aside0.mk (below_step (by repeat (first | (with_reducible first | exact HB.out | apply below_alloc | apply pw_below_drewN | apply below_drew1) | exact HB.out)) hb); clear HB; have HB := n0_; clear n0_; (try clear hb); (try clear hb2); (try clear hk); (try clear hi)) | (go_at_call 12; (with_reducible refine (name_May.calls t309 true _ A20.out).mono ?_); rintro e w27 ⟨rfl, hb⟩; have n0_ := Aside0.mk (below_step (by repeat (first | (with_reducible first | exact HB.out | apply below_alloc | apply pw_below_drewN | apply below_drew1) | exact HB.out)) hb); clear HB; have HB := n0_; clear n0_; (try clear hb); (try clear hb2); (try clear hk); (try clear hi)) | (go_at_call 25; (with_reducible refine (name_Depth.calls t309 t317 _ A22.out).mono ?_); rintro e w28 ⟨rfl, hb⟩; have n0_ := Aside0.mk (below_step (by repeat (first | (with_reducible first | exact HB.out | apply below_alloc | apply pw_below_drewN | apply below_drew1) | exact HB.out)) hb); clear HB; have HB := n0_; clear n0_; (try clear hb); (try clear hb2); (try clear hk); (try clear hi)) | (go_at_call 12; (with_reducible refine (name_May.calls t314 t318 _ A25.out).mono ?_); rintro e w29 ⟨rfl, hb⟩; have n0_ := Aside0.mk (below_step (by repeat (first | (with_reducible first | exact HB.out | apply below_alloc | apply pw_below_drewN | apply below_drew1) | exact HB.out)) hb); clear HB; have HB := n0_; clear n0_; (try clear hb); (try clear hb2); (try clear hk); (try clear hi)))
                            go_ret
                            exact ⟨by first | rfl | (simp [errW_none, errW_some] <;> rfl) | (simp [*, errW_none, errW_some] <;> rfl), by repeat (first | (with_reducible first | exact HB.out | apply below_alloc | apply pw_below_drewN | apply below_drew1) | exact HB.out)⟩
                          · rw [if_neg c24] at H
                            have c24b0 : ((t309.size : Int) == x8_2) = false := beq_eq_false_iff_ne.mpr c24
                            have c24b1 : ((t309.size : Int) != x8_2) = true := bne_iff_ne.mpr c24
                            obtain rfl := Option.some.inj H
                            go_wp2_with (first | ((with_reducible refine gate_callee (f := 27) rfl ?_); refine goesL_ (some 61) rfl rfl Tryd.func27 (by kernel_rfl) rfl #[.string a1] rfl (by (try simp only [List.map_toArray, List.map_cons, List.map_nil]); first | done | rfl | (simp only [List.length_drop, List.length_take]; rfl)) ?_; (with_reducible refine (name_Take.calls k2 a1 t314 t315 _ A15.out).mono ?_); rintro e w30 ⟨rfl, hb⟩; refine ⟨_, rfl, ?_⟩; have n0_ := Aside0.mk (below_step (by repeat (first | (with_reducible first | exact HB.out | apply below_alloc | apply pw_below_drewN | apply below_drew1) | exact HB.out)) hb); clear HB; have HB := n0_; clear n0_; (try clear hb); (try clear hb2); (try clear hk); (try clear hi)) | (go_at_call 12; (with_reducible refine (name_May.calls t309 true _ A20.out).mono ?_); rintro e w31 ⟨rfl, hb⟩; have n0_ := Aside0.mk (below_step (by repeat (first | (with_reducible first | exact HB.out | apply below_alloc | apply pw_below_drewN | apply below_drew1) | exact HB.out)) hb); clear HB; have HB := n0_; clear n0_; (try clear hb); (try clear hb2); (try clear hk); (try clear hi)) | (go_at_call 25; (with_reducible refine (name_Depth.calls t309 t317 _ A22.out).mono ?_); rintro e w32 ⟨rfl, hb⟩; have n0_ := Aside0.mk (below_step (by repeat (first | (with_reducible first | exact HB.out | apply below_alloc | apply pw_below_drewN | apply below_drew1) | exact HB.out)) hb); clear HB; have HB := n0_; clear n0_; (try clear hb); (try clear hb2); (try clear hk); (try clear hi)))
                            go_ret
                            exact ⟨by first | rfl | (simp [errW_none, errW_some] <;> rfl) | (simp [*, errW_none, errW_some] <;> rfl), by repeat (first | (with_reducible first | exact HB.out | apply below_alloc | apply pw_below_drewN | apply below_drew1) | exact HB.out)⟩
                        · rw [if_neg c23] at H
                          have c23b0 : (t317 == (l0.length : Int)) = false := beq_eq_false_iff_ne.mpr c23
                          have c23b1 : (t317 != (l0.length : Int)) = true := bne_iff_ne.mpr c23
                          obtain rfl := Option.some.inj H
                          go_wp2_with (first | ((with_reducible refine gate_callee (f := 27) rfl ?_); refine goesL_ (some 61) rfl rfl Tryd.func27 (by kernel_rfl) rfl #[.string a1] rfl (by (try simp only [List.map_toArray, List.map_cons, List.map_nil]); first | done | rfl | (simp only [List.length_drop, List.length_take]; rfl)) ?_; (with_reducible refine (name_Take.calls k2 a1 t314 t315 _ A15.out).mono ?_); rintro e w33 ⟨rfl, hb⟩; refine ⟨_, rfl, ?_⟩; have n0_ := Aside0.mk (below_step (by repeat (first | (with_reducible first | exact HB.out | apply below_alloc | apply pw_below_drewN | apply below_drew1) | exact HB.out)) hb); clear HB; have HB := n0_; clear n0_; (try clear hb); (try clear hb2); (try clear hk); (try clear hi)) | (go_at_call 12; (with_reducible refine (name_May.calls t309 true _ A20.out).mono ?_); rintro e w34 ⟨rfl, hb⟩; have n0_ := Aside0.mk (below_step (by repeat (first | (with_reducible first | exact HB.out | apply below_alloc | apply pw_below_drewN | apply below_drew1) | exact HB.out)) hb); clear HB; have HB := n0_; clear n0_; (try clear hb); (try clear hb2); (try clear hk); (try clear hi)) | (go_at_call 25; (with_reducible refine (name_Depth.calls t309 t317 _ A22.out).mono ?_); rintro e w35 ⟨rfl, hb⟩; have n0_ := Aside0.mk (below_step (by repeat (first | (with_reducible first | exact HB.out | apply below_alloc | apply pw_below_drewN | apply below_drew1) | exact HB.out)) hb); clear HB; have HB := n0_; clear n0_; (try clear hb); (try clear hb2); (try clear hk); (try clear hi)))
                          go_ret
                          exact ⟨by first | rfl | (simp [errW_none, errW_some] <;> rfl) | (simp [*, errW_none, errW_some] <;> rfl), by repeat (first | (with_reducible first | exact HB.out | apply below_alloc | apply pw_below_drewN | apply below_drew1) | exact HB.out)⟩
                      · replace c21 := Bool.eq_false_iff.mpr c21
                        subst c21
                        have H1 : (some false) = some r := by rw [if_neg (show ¬ (false = true) by decide)] at H; exact H
                        clear H
                        have H := H1
                        clear H1
                        obtain rfl := Option.some.inj H
                        go_wp2_with (first | ((with_reducible refine gate_callee (f := 27) rfl ?_); refine goesL_ (some 61) rfl rfl Tryd.func27 (by kernel_rfl) rfl #[.string a1] rfl (by (try simp only [List.map_toArray, List.map_cons, List.map_nil]); first | done | rfl | (simp only [List.length_drop, List.length_take]; rfl)) ?_; (with_reducible refine (name_Take.calls k2 a1 t314 t315 _ A15.out).mono ?_); rintro e w36 ⟨rfl, hb⟩; refine ⟨_, rfl, ?_⟩; have n0_ := Aside0.mk (below_step (by repeat (first | (with_reducible first | exact HB.out | apply below_alloc | apply pw_below_drewN | apply below_drew1) | exact HB.out)) hb); clear HB; have HB := n0_; clear n0_; (try clear hb); (try clear hb2); (try clear hk); (try clear hi)) | (go_at_call 12; (with_reducible refine (name_May.calls t309 false _ A20.out).mono ?_); rintro e w37 ⟨rfl, hb⟩; have n0_ := Aside0.mk (below_step (by repeat (first | (with_reducible first | exact HB.out | apply below_alloc | apply pw_below_drewN | apply below_drew1) | exact HB.out)) hb); clear HB; have HB := n0_; clear n0_; (try clear hb); (try clear hb2); (try clear hk); (try clear hi)))
                        go_ret
                        exact ⟨by first | rfl | (simp [errW_none, errW_some] <;> rfl) | (simp [*, errW_none, errW_some] <;> rfl), by repeat (first | (with_reducible first | exact HB.out | apply below_alloc | apply pw_below_drewN | apply below_drew1) | exact HB.out)⟩
                    · rw [if_neg c19] at H
                      have c19b0 : (t310 == 0) = false := beq_eq_false_iff_ne.mpr c19
                      have c19d : decide (x8_2 ≤ 255) = false := (eq_of_beq c18b0).symm.trans c19b0
                      have c19b1 : (t310 != 0) = true := bne_iff_ne.mpr c19
                      by_cases c38 : t309.toList = ([] : List UInt8)
                      · rw [if_pos c38] at H
                        have c38b0 : (t309.toList == ([] : List UInt8)) = true := beq_iff_eq.mpr c38
                        have c38b1 : (t309.toList != ([] : List UInt8)) = false := bne_eq_false_iff_eq.mpr c38
                        clear c38
                        replace H := Option.bind_eq_some_iff.mp H
                        obtain ⟨t319, A390, H⟩ := H
                        replace H : (some ((t315 == 0) == t319)) = some r := H
                        have A39 := Aside0.mk A390
                        clear A390
                        obtain rfl := Option.some.inj H
                        go_wp2_with (first | ((with_reducible refine gate_callee (f := 27) rfl ?_); refine goesL_ (some 61) rfl rfl Tryd.func27 (by kernel_rfl) rfl #[.string a1] rfl (by (try simp only [List.map_toArray, List.map_cons, List.map_nil]); first | done | rfl | (simp only [List.length_drop, List.length_take]; rfl)) ?_; (with_reducible refine (name_Take.calls k2 a1 t314 t315 _ A15.out).mono ?_); rintro e w40 ⟨rfl, hb⟩; refine ⟨_, rfl, ?_⟩; have n0_ := Aside0.mk (below_step (by repeat (first | (with_reducible first | exact HB.out | apply below_alloc | apply pw_below_drewN | apply below_drew1) | exact HB.out)) hb); clear HB; have HB := n0_; clear n0_; (try clear hb); (try clear hb2); (try clear hk); (try clear hi)) | (go_at_call 12; (with_reducible refine (name_May.calls t314 t319 _ A39.out).mono ?_); rintro e w41 ⟨rfl, hb⟩; have n0_ := Aside0.mk (below_step (by repeat (first | (with_reducible first | exact HB.out | apply below_alloc | apply pw_below_drewN | apply below_drew1) | exact HB.out)) hb); clear HB; have HB := n0_; clear n0_; (try clear hb); (try clear hb2); (try clear hk); (try clear hi)))
                        go_ret
                        exact ⟨by first | rfl | (simp [errW_none, errW_some] <;> rfl) | (simp [*, errW_none, errW_some] <;> rfl), by repeat (first | (with_reducible first | exact HB.out | apply below_alloc | apply pw_below_drewN | apply below_drew1) | exact HB.out)⟩
                      · rw [if_neg c38] at H
                        have c38b0 : (t309.toList == ([] : List UInt8)) = false := beq_eq_false_iff_ne.mpr c38
                        have c38b1 : (t309.toList != ([] : List UInt8)) = true := bne_iff_ne.mpr c38
                        obtain rfl := Option.some.inj H
                        go_wp2_with (first | ((with_reducible refine gate_callee (f := 27) rfl ?_); refine goesL_ (some 61) rfl rfl Tryd.func27 (by kernel_rfl) rfl #[.string a1] rfl (by (try simp only [List.map_toArray, List.map_cons, List.map_nil]); first | done | rfl | (simp only [List.length_drop, List.length_take]; rfl)) ?_; (with_reducible refine (name_Take.calls k2 a1 t314 t315 _ A15.out).mono ?_); rintro e w42 ⟨rfl, hb⟩; refine ⟨_, rfl, ?_⟩; have n0_ := Aside0.mk (below_step (by repeat (first | (with_reducible first | exact HB.out | apply below_alloc | apply pw_below_drewN | apply below_drew1) | exact HB.out)) hb); clear HB; have HB := n0_; clear n0_; (try clear hb); (try clear hb2); (try clear hk); (try clear hi)))
                        go_ret
                        exact ⟨by first | rfl | (simp [errW_none, errW_some] <;> rfl) | (simp [*, errW_none, errW_some] <;> rfl), by repeat (first | (with_reducible first | exact HB.out | apply below_alloc | apply pw_below_drewN | apply below_drew1) | exact HB.out)⟩
                  · rw [if_neg c18] at H
                    have c18b0 : ((t310 == 0) == (decide (x8_2 ≤ 255))) = false := by simpa using c18
                    (try (have c18b1 : decide ((t310 == 0) = (decide (x8_2 ≤ 255))) = false := by simpa using c18))
                    (try (have c18b2 : ((t310 == 0) == (decide (x8_2 ≤ 255))) = false := by simpa using c18))
                    (try (have c18b3 : ¬ ((t310 == 0) = (decide (x8_2 ≤ 255))) := by simpa using c18))
                    clear c18
                    obtain rfl := Option.some.inj H
                    go_wp2_with (first | ((with_reducible refine gate_callee (f := 27) rfl ?_); refine goesL_ (some 61) rfl rfl Tryd.func27 (by kernel_rfl) rfl #[.string a1] rfl (by (try simp only [List.map_toArray, List.map_cons, List.map_nil]); first | done | rfl | (simp only [List.length_drop, List.length_take]; rfl)) ?_; (with_reducible refine (name_Take.calls k2 a1 t314 t315 _ A15.out).mono ?_); rintro e w43 ⟨rfl, hb⟩; refine ⟨_, rfl, ?_⟩; have n0_ := Aside0.mk (below_step (by repeat (first | (with_reducible first | exact HB.out | apply below_alloc | apply pw_below_drewN | apply below_drew1) | exact HB.out)) hb); clear HB; have HB := n0_; clear n0_; (try clear hb); (try clear hb2); (try clear hk); (try clear hi)))
                    go_ret
                    exact ⟨by first | rfl | (simp [errW_none, errW_some] <;> rfl) | (simp [*, errW_none, errW_some] <;> rfl), by repeat (first | (with_reducible first | exact HB.out | apply below_alloc | apply pw_below_drewN | apply below_drew1) | exact HB.out)⟩
                · replace c17 := Bool.eq_false_iff.mpr c17
                  subst c17
                  have H1 : (if ((t310 == 0) == false) = true then (if t310 = 0 then ((name_May.f t309).bind fun t320 => (if t320 = true then ((name_Depth.f t309).bind fun t321 => (if t321 = (l0.length : Int) then (if (t309.size : Int) = x8_2 then ((name_May.f t314).bind fun t322 => (some ((t315 == 0) == t322))) else (some false)) else (some false))) else (some false))) else (if t309.toList = ([] : List UInt8) then ((name_May.f t314).bind fun t323 => (some ((t315 == 0) == t323))) else (some false))) else (some false)) = some r := by rw [if_neg (show ¬ (false = true) by decide)] at H; exact H
                  clear H
                  have H := H1
                  clear H1
                  by_cases c44 : ((t310 == 0) == false) = true
                  · rw [if_pos c44] at H
                    have c44b0 : ((t310 == 0) == false) = true := c44
                    (try (have c44b1 : decide ((t310 == 0) = false) = true := by simpa using c44))
                    (try (have c44b2 : ((t310 == 0) == false) = true := by simpa using c44))
                    clear c44
                    by_cases c45 : t310 = 0
                    · exact absurd (c44b0.symm.trans (by rw [c45])) (by decide)
                    · rw [if_neg c45] at H
                      have c45b0 : (t310 == 0) = false := beq_eq_false_iff_ne.mpr c45
                      have c45b1 : (t310 != 0) = true := bne_iff_ne.mpr c45
                      by_cases c64 : t309.toList = ([] : List UInt8)
                      · rw [if_pos c64] at H
                        have c64b0 : (t309.toList == ([] : List UInt8)) = true := beq_iff_eq.mpr c64
                        have c64b1 : (t309.toList != ([] : List UInt8)) = false := bne_eq_false_iff_eq.mpr c64
                        clear c64
                        replace H := Option.bind_eq_some_iff.mp H
                        obtain ⟨t323, A650, H⟩ := H
                        replace H : (some ((t315 == 0) == t323)) = some r := H
                        have A65 := Aside0.mk A650
                        clear A650
                        obtain rfl := Option.some.inj H
                        go_wp2_with (first | ((with_reducible refine gate_callee (f := 27) rfl ?_); refine goesL_ (some 61) rfl rfl Tryd.func27 (by kernel_rfl) rfl #[.string a1] rfl (by (try simp only [List.map_toArray, List.map_cons, List.map_nil]); first | done | rfl | (simp only [List.length_drop, List.length_take]; rfl)) ?_; (with_reducible refine (name_Take.calls k2 a1 t314 t315 _ A15.out).mono ?_); rintro e w66 ⟨rfl, hb⟩; refine ⟨_, rfl, ?_⟩; have n0_ := Aside0.mk (below_step (by repeat (first | (with_reducible first | exact HB.out | apply below_alloc | apply pw_below_drewN | apply below_drew1) | exact HB.out)) hb); clear HB; have HB := n0_; clear n0_; (try clear hb); (try clear hb2); (try clear hk); (try clear hi)) | (go_at_call 12; (with_reducible refine (name_May.calls t314 t323 _ A65.out).mono ?_); rintro e w67 ⟨rfl, hb⟩; have n0_ := Aside0.mk (below_step (by repeat (first | (with_reducible first | exact HB.out | apply below_alloc | apply pw_below_drewN | apply below_drew1) | exact HB.out)) hb); clear HB; have HB := n0_; clear n0_; (try clear hb); (try clear hb2); (try clear hk); (try clear hi)))
                        go_ret
                        exact ⟨by first | rfl | (simp [errW_none, errW_some] <;> rfl) | (simp [*, errW_none, errW_some] <;> rfl), by repeat (first | (with_reducible first | exact HB.out | apply below_alloc | apply pw_below_drewN | apply below_drew1) | exact HB.out)⟩
                      · rw [if_neg c64] at H
                        have c64b0 : (t309.toList == ([] : List UInt8)) = false := beq_eq_false_iff_ne.mpr c64
                        have c64b1 : (t309.toList != ([] : List UInt8)) = true := bne_iff_ne.mpr c64
                        obtain rfl := Option.some.inj H
                        go_wp2_with (first | ((with_reducible refine gate_callee (f := 27) rfl ?_); refine goesL_ (some 61) rfl rfl Tryd.func27 (by kernel_rfl) rfl #[.string a1] rfl (by (try simp only [List.map_toArray, List.map_cons, List.map_nil]); first | done | rfl | (simp only [List.length_drop, List.length_take]; rfl)) ?_; (with_reducible refine (name_Take.calls k2 a1 t314 t315 _ A15.out).mono ?_); rintro e w68 ⟨rfl, hb⟩; refine ⟨_, rfl, ?_⟩; have n0_ := Aside0.mk (below_step (by repeat (first | (with_reducible first | exact HB.out | apply below_alloc | apply pw_below_drewN | apply below_drew1) | exact HB.out)) hb); clear HB; have HB := n0_; clear n0_; (try clear hb); (try clear hb2); (try clear hk); (try clear hi)))
                        go_ret
                        exact ⟨by first | rfl | (simp [errW_none, errW_some] <;> rfl) | (simp [*, errW_none, errW_some] <;> rfl), by repeat (first | (with_reducible first | exact HB.out | apply below_alloc | apply pw_below_drewN | apply below_drew1) | exact HB.out)⟩
                  · rw [if_neg c44] at H
                    have c44b0 : ((t310 == 0) == false) = false := by simpa using c44
                    (try (have c44b1 : decide ((t310 == 0) = false) = false := by simpa using c44))
                    (try (have c44b2 : ((t310 == 0) == false) = false := by simpa using c44))
                    (try (have c44b3 : ¬ ((t310 == 0) = false) := by simpa using c44))
                    clear c44
                    obtain rfl := Option.some.inj H
                    go_wp2_with (first | ((with_reducible refine gate_callee (f := 27) rfl ?_); refine goesL_ (some 61) rfl rfl Tryd.func27 (by kernel_rfl) rfl #[.string a1] rfl (by (try simp only [List.map_toArray, List.map_cons, List.map_nil]); first | done | rfl | (simp only [List.length_drop, List.length_take]; rfl)) ?_; (with_reducible refine (name_Take.calls k2 a1 t314 t315 _ A15.out).mono ?_); rintro e w69 ⟨rfl, hb⟩; refine ⟨_, rfl, ?_⟩; have n0_ := Aside0.mk (below_step (by repeat (first | (with_reducible first | exact HB.out | apply below_alloc | apply pw_below_drewN | apply below_drew1) | exact HB.out)) hb); clear HB; have HB := n0_; clear n0_; (try clear hb); (try clear hb2); (try clear hk); (try clear hi)))
                    go_ret
                    exact ⟨by first | rfl | (simp [errW_none, errW_some] <;> rfl) | (simp [*, errW_none, errW_some] <;> rfl), by repeat (first | (with_reducible first | exact HB.out | apply below_alloc | apply pw_below_drewN | apply below_drew1) | exact HB.out)⟩
              · replace c16 := Bool.eq_false_iff.mpr c16
                subst c16
                have H1 : (some false) = some r := by rw [if_neg (show ¬ (false = true) by decide)] at H; exact H
                clear H
                have H := H1
                clear H1
                obtain rfl := Option.some.inj H
                go_wp2_with (first | ((with_reducible refine gate_callee (f := 27) rfl ?_); refine goesL_ (some 61) rfl rfl Tryd.func27 (by kernel_rfl) rfl #[.string a1] rfl (by (try simp only [List.map_toArray, List.map_cons, List.map_nil]); first | done | rfl | (simp only [List.length_drop, List.length_take]; rfl)) ?_; (with_reducible refine (name_Take.calls k2 a1 t314 t315 _ A15.out).mono ?_); rintro e w70 ⟨rfl, hb⟩; refine ⟨_, rfl, ?_⟩; have n0_ := Aside0.mk (below_step (by repeat (first | (with_reducible first | exact HB.out | apply below_alloc | apply pw_below_drewN | apply below_drew1) | exact HB.out)) hb); clear HB; have HB := n0_; clear n0_; (try clear hb); (try clear hb2); (try clear hk); (try clear hi)))
                go_ret
                exact ⟨by first | rfl | (simp [errW_none, errW_some] <;> rfl) | (simp [*, errW_none, errW_some] <;> rfl), by repeat (first | (with_reducible first | exact HB.out | apply below_alloc | apply pw_below_drewN | apply below_drew1) | exact HB.out)⟩

end Go.Proofs.YthkpanggjbckkaaDoor.PN
