-- Written by a program for this claim: functions of the given program as Lean functions, and their contracts.
import Derived.Test.YtnikhiegnledlaaPPa
namespace Go.Proofs.Ytnikhiegnledlaa.PPM
open Go.RowKit Go.Proofs.YtnikhiegnledlaaW.PrintWords Go.Proofs.YtnikhiegnledlaaW.PrintLast Go.Proofs.YtnikhiegnledlaaW.PrintMore
attribute [local go_sem] max2_int min2_int max_two min_two max_three min_three max_four min_four   -- for this text's walks alone
set_option linter.unusedVariables false
set_option linter.unusedSimpArgs false

/-! ### derrickref13_Due: function 26 -/
mutual
def derrickref13_Due.l0 : Nat → List (S35) → Int → List (S35) → List (S25) → Int → Option ((List (S35)) × (List (S25)))
  | 0, _, _, _, _, _ => none
  | k + 1, x0, x1, x6, x7, x8 => if x8 < (x0.length : Int) then (if 0 ≤ x8 then (if ((rd_T35 x0 x8).f4) > x1 then (if x6.length < 1954687338268 then (derrickref13_Due.l0 k x0 x1 (x6 ++ [(⟨(⟨(rd_T35 x0 x8).f0.f0, (rd_T35 x0 x8).f0.f1, (rd_T35 x0 x8).f0.f2⟩ : S25), (rd_T35 x0 x8).f1, (rd_T35 x0 x8).f2, (rd_T35 x0 x8).f3, (rd_T35 x0 x8).f4⟩ : S35)]) x7 (wrap64 (x8 + 1))) else (none)) else (derrickref13_Due.l1 k x0 x1 x6 x7 x8 0)) else (none)) else (some (x6, x7))
def derrickref13_Due.l1 : Nat → List (S35) → Int → List (S35) → List (S25) → Int → Int → Option ((List (S35)) × (List (S25)))
  | 0, _, _, _, _, _, _ => none
  | k + 1, x0, x1, x6, x7, x8, x9 => if x9 < (x7.length : Int) then (if 0 ≤ x9 then (if 0 ≤ x8 then (if x8 < (x0.length : Int) then ((derrickref13_Less.f ((rd_T25 x7 x9).f0) ((rd_T25 x7 x9).f1) ((rd_T25 x7 x9).f2) ((rd_T35 x0 x8).f0.f0) ((rd_T35 x0 x8).f0.f1) ((rd_T35 x0 x8).f0.f2)).bind fun t143 => (if t143 = true then (derrickref13_Due.l1 k x0 x1 x6 x7 x8 (wrap64 (x9 + 1))) else ((some (([] : List (S25)) : List (S25))).bind fun y144 => (if x9 ≤ (x7.length : Int) then ((some (x7.take (x9 : Int).toNat : List (S25))).bind fun y147 => (if y144.length + y147.length < 5864062014805 then ((some (y144 ++ y147 : List (S25))).bind fun y152 => (if y152.length < 5864062014805 then ((some (y152 ++ [(⟨(rd_T35 x0 x8).f0.f0, (rd_T35 x0 x8).f0.f1, (rd_T35 x0 x8).f0.f2⟩ : S25)] : List (S25))).bind fun y156 => ((some (x7.drop (x9 : Int).toNat : List (S25))).bind fun y159 => (if y156.length + y159.length < 5864062014805 then (derrickref13_Due.l0 k x0 x1 x6 (y156 ++ y159) (wrap64 (x8 + 1))) else (none)))) else (none))) else (none))) else (none))))) else (none)) else (none)) else (none)) else ((some (([] : List (S25)) : List (S25))).bind fun y167 => (if 0 ≤ x9 then (if x9 ≤ (x7.length : Int) then ((some (x7.take (x9 : Int).toNat : List (S25))).bind fun y170 => (if y167.length + y170.length < 5864062014805 then ((some (y167 ++ y170 : List (S25))).bind fun y175 => (if 0 ≤ x8 then (if x8 < (x0.length : Int) then (if y175.length < 5864062014805 then ((some (y175 ++ [(⟨(rd_T35 x0 x8).f0.f0, (rd_T35 x0 x8).f0.f1, (rd_T35 x0 x8).f0.f2⟩ : S25)] : List (S25))).bind fun y179 => ((some (x7.drop (x9 : Int).toNat : List (S25))).bind fun y182 => (if y179.length + y182.length < 5864062014805 then (derrickref13_Due.l0 k x0 x1 x6 (y179 ++ y182) (wrap64 (x8 + 1))) else (none)))) else (none)) else (none)) else (none))) else (none))) else (none)) else (none)))
end
def derrickref13_Due.f (k : Nat) (l0 : List (S35)) (a1 : Int) : Option ((List (S35)) × (List (S25))) := derrickref13_Due.l0 k l0 a1 ([] : List (S35)) ([] : List (S25)) 0
theorem derrickref13_Due.mono_l : ∀ k, (∀ y0 y1 y2 y3 y4, LeO (derrickref13_Due.l0 k y0 y1 y2 y3 y4) (derrickref13_Due.l0 (k + 1) y0 y1 y2 y3 y4)) ∧ (∀ y0 y1 y2 y3 y4 y5, LeO (derrickref13_Due.l1 k y0 y1 y2 y3 y4 y5) (derrickref13_Due.l1 (k + 1) y0 y1 y2 y3 y4 y5))
  | 0 => ⟨fun _ _ _ _ _ r h => by simp [derrickref13_Due.l0] at h, fun _ _ _ _ _ _ r h => by simp [derrickref13_Due.l1] at h⟩
  | k + 1 => by
    obtain ⟨ih0, ih1⟩ := derrickref13_Due.mono_l k
    refine ⟨?_, ?_⟩
    · intro y0 y1 y2 y3 y4
      unfold derrickref13_Due.l0
      repeat' first
      | (with_reducible exact ih0 _ _ _ _ _)
      | (with_reducible exact ih1 _ _ _ _ _ _)
      | (with_reducible exact LeO.refl _)
      | (with_reducible exact LeO.none _)
      | (with_reducible refine LeO.ite ?_ ?_)
      | (with_reducible refine LeO.bind ?_ (fun _ => ?_))
      | exact ih0 _ _ _ _ _
      | exact ih1 _ _ _ _ _ _
      | exact LeO.none _
      | refine LeO.ite ?_ ?_
      | refine LeO.bind ?_ (fun _ => ?_)
    · intro y0 y1 y2 y3 y4 y5
      unfold derrickref13_Due.l1
      repeat' first
      | (with_reducible exact ih0 _ _ _ _ _)
      | (with_reducible exact ih1 _ _ _ _ _ _)
      | (with_reducible exact LeO.refl _)
      | (with_reducible exact LeO.none _)
      | (with_reducible refine LeO.ite ?_ ?_)
      | (with_reducible refine LeO.bind ?_ (fun _ => ?_))
      | exact ih0 _ _ _ _ _
      | exact ih1 _ _ _ _ _ _
      | exact LeO.none _
      | refine LeO.ite ?_ ?_
      | refine LeO.bind ?_ (fun _ => ?_)
theorem derrickref13_Due.mono : ∀ a0 a1 k, LeO (derrickref13_Due.f k a0 a1) (derrickref13_Due.f (k + 1) a0 a1) := by
  intro a0 a1 k
  obtain ⟨ih0, ih1⟩ := derrickref13_Due.mono_l k
  unfold derrickref13_Due.f
  repeat' first
      | (with_reducible exact ih0 _ _ _ _ _)
      | (with_reducible exact ih1 _ _ _ _ _ _)
      | (with_reducible exact LeO.refl _)
      | (with_reducible exact LeO.none _)
      | (with_reducible refine LeO.ite ?_ ?_)
      | (with_reducible refine LeO.bind ?_ (fun _ => ?_))
      | exact ih0 _ _ _ _ _
      | exact ih1 _ _ _ _ _ _
      | exact LeO.none _
      | refine LeO.ite ?_ ?_
      | refine LeO.bind ?_ (fun _ => ?_)
def derrickref13_Due.T9 : Bool × List (List Nat × List Nat) := (true, [([], []), ([], []), ([1], [1]), ([0, 2], [0, 2]), ([3], [3]), ([4], [4]), ([4], [4]), ([5, 6, 4], [4, 5, 6]), ([7, 4], [4, 7]), ([4], [4]), ([4], [4]), ([9, 10, 4], [4, 9, 10]), ([11, 4], [4, 11]), ([12, 4], [4, 12]), ([8, 13, 4, 4], [4, 8, 13]), ([4, 14], [4, 14])])
def derrickref13_Due.B9 : List Nat := [0, 0, 2, 7, 15, 31, 31, 127, 255, 31, 31, 1567, 3615, 7711, 16383, 32767]
theorem derrickref13_Due.tab9 : rtab .any (opsOf Try.f26 9) = derrickref13_Due.T9 := by kernel_rfl
theorem derrickref13_Due.bits9 : waitsOk derrickref13_Due.T9.2 derrickref13_Due.B9 = true := by kernel_rfl
set_option maxHeartbeats 8000000 in
set_option maxRecDepth 100000 in
theorem derrickref13_Due.calls (k : Nat) (P0_ : Nat → Prop) (A0 : Option Addr) (c0 : Nat) (l0 : List (S35)) (a1 : Int) (r1 : List (S35)) (r2 : List (S25)) (w : World) (hs0 : Kd.V k35 35 w w.heap.size (fun k_ => P0_ k_) (.slice A0 l0.length c0) l0) (h : derrickref13_Due.f k l0 a1 = some (r1, r2)) :
    Calls Try.prog 26 #[.slice A0 l0.length c0, .int .u64 a1] w fun e w' => ∃ v0_ v1_ : Value, e = .returned (.tuple #[v0_, v1_]) ∧ Kd.N k35 35 w' w.heap.size (fun k_ => (P0_ k_ ∨ w.heap.size ≤ k_) ∧ some k_ ≠ (v1_ : Value).ownBlock) v0_ r1 ∧ Kd.R k25 25 w' w.heap.size (fun k_ => (w.heap.size ≤ k_)) v1_ r2 ∧ Below w.heap.size w w' := by
  have hu35 := Try.underlying35
  have hu25 := Try.underlying25
  have HO0 := Aside0.mk (show Kd.V k35 35 w w.heap.size (fun k_ => (P0_ k_ ∨ w.heap.size ≤ k_)) (.slice A0 l0.length c0) l0 from Kd.V_mono hs0 (fun k_ hk => .inl hk))
  have HB := Aside0.mk (Below.refl w.heap.size w)
  have H : (derrickref13_Due.l0 k l0 a1 ([] : List (S35)) ([] : List (S25)) 0) = some (r1, r2) := h
  clear h
  have H' := Aside0.mk H
  clear H
  go_enter Try.func26, Try.ntmps26
  go_wp2
  go_loopg [6, 7, 8] k (fun kq v6 v7 v8 w' => ∃ (x6_1 : List (S35)) (x7_1 : List (S25)) (x8_1 : Int), v8 = .int .i64 x8_1 ∧ Aside0 (derrickref13_Due.l0 kq l0 a1 x6_1 x7_1 x8_1 = some (r1, r2)) ∧ Aside0 (kq ≤ k) ∧ Aside0 (Kd.V k35 35 w' w.heap.size (fun k_ => (P0_ k_ ∨ w.heap.size ≤ k_) ∧ some k_ ≠ (v6 : Value).ownBlock ∧ some k_ ≠ (v7 : Value).ownBlock) (.slice A0 l0.length c0) l0) ∧ Aside0 (Kd.N k35 35 w' w.heap.size (fun k_ => (P0_ k_ ∨ w.heap.size ≤ k_) ∧ some k_ ≠ (v7 : Value).ownBlock) v6 x6_1) ∧ Aside0 (Kd.R k25 25 w' w.heap.size (fun k_ => (w.heap.size ≤ k_)) v7 x7_1) ∧ Aside0 (Below w.heap.size w w'))
  case atStart => exact ⟨(([] : List (S35))), (([] : List (S25))), (0), (by first | rfl | (simp; done) | (simp [*]; done)), H', ⟨Nat.le_refl _⟩, ⟨by (with_reducible repeat (first | apply Kd.V_alloc | apply Kd.V_drewN | apply Kd.V_drew)); exact Kd.V_mono HO0.out (fun _ hk => ⟨hk, ⟨(by simp [Value.ownBlock]), (by simp [Value.ownBlock])⟩⟩)⟩, ⟨by first | exact Kd.S_nil _ _ _ _ _ | exact Kd.N_nil _ _ _ _ _ | exact Kd.V_nil _ _ _ _ _ | exact Kd.Q_nil _ _ _ _ _ | exact Kd.R_nil _ _ _ _ _⟩, ⟨by first | exact Kd.R_nil _ _ _ _ _ | exact Kd.N_nil _ _ _ _ _ | exact Kd.V_nil _ _ _ _ _ | exact Kd.Q_nil _ _ _ _ _ | exact Kd.S_nil _ _ _ _ _⟩, ⟨by repeat (first | (with_reducible first | exact HB.out | apply below_alloc | apply pw_below_drewN | apply below_drew1) | exact HB.out)⟩⟩
  case round =>
    clear H'
    try clear c2
    try clear p2
    obtain ⟨x6_1, x7_1, x8_1, rfl, HA, HK1, HO_0, HO_6, HO_7, HB⟩ := hrel
    cases gk with
    | zero => exact absurd HA.out (by simp [derrickref13_Due.l0])
    | succ k1 =>
      have H := HA.out
      clear HA
      simp only [derrickref13_Due.l0] at H
      by_cases c3 : x8_1 < (l0.length : Int)
      · rw [if_pos c3] at H
        have c3b0 : decide (x8_1 < (l0.length : Int)) = true := decide_eq_true c3
        clear c3
        by_cases c4 : 0 ≤ x8_1
        · rw [if_pos c4] at H
          have c4b0 : decide (0 ≤ x8_1) = true := decide_eq_true c4
          clear c4
          by_cases c5 : ((rd_T35 l0 x8_1).f4) > a1
          · rw [if_pos c5] at H
            have c5b0 : decide (a1 < ((rd_T35 l0 x8_1).f4)) = true := decide_eq_true c5
            clear c5
            by_cases c6 : x6_1.length < 1954687338268
            · rw [if_pos c6] at H
              have LMc6 := Aside0.mk c6
              clear c6
              obtain ⟨y138, hy138⟩ : ∃ y_ : List (S35), y_ = (x6_1 ++ [(⟨(⟨(rd_T35 l0 x8_1).f0.f0, (rd_T35 l0 x8_1).f0.f1, (rd_T35 l0 x8_1).f0.f2⟩ : S25), (rd_T35 l0 x8_1).f1, (rd_T35 l0 x8_1).f2, (rd_T35 l0 x8_1).f3, (rd_T35 l0 x8_1).f4⟩ : S35)]) := ⟨_, rfl⟩
              replace H : (derrickref13_Due.l0 k1 l0 a1 y138 x7_1 (wrap64 (x8_1 + 1))) = some (r1, r2) := by first | (rw [hy138]; with_reducible exact H) | (have H2_ := (Option.bind_some _ _).symm.trans H; rw [hy138]; with_reducible exact H2_) | (have H2_ := (Option.bind_some _ _).symm.trans H; with_reducible exact H2_) | with_reducible exact H | (rw [hy138]; exact H) | exact H
              have Ny138 := Aside0.mk hy138
              clear hy138
              have H' := Aside0.mk H
              clear H
              have p136 : 0 ≤ (x8_1 : Int) := of_decide_eq_true (by first | (with_reducible assumption) | assumption)
              have q136 : x8_1 < (l0.length : Int) := of_decide_eq_true (by first | (with_reducible assumption) | assumption)
              obtain ⟨ad136, A136_3, c136_3, e136, hx136_0, hx136_1, hx136_2, hx136_3, hx136_4, hx136_5, hx136_6, hl136_3, hi136_3⟩ := at_T35 (Kd.V_reads' HO_0.out).2.2 x8_1 p136 q136
              cases e136
              obtain ⟨ce136, hce136, hMe136, hcc136⟩ := Kd.V_get HO_0.out z35 x8_1 p136 (by first | exact q136 | exact of_decide_eq_true (by first | (with_reducible assumption) | assumption) | (have e_ := (Kd.V_reads' HO_0.out).1; omega))
              obtain ⟨ua136_3, uc136_3, rfl, ul136_3, ge136_3⟩ := k35_openF hMe136
              have hv136_3 := hcc136 3 _ rfl
              rw [add_field _ _ 3 (by omega)] at hv136_3
              replace hv136_3 := Option.some.inj (hv136_3.symm.trans hx136_3)
              injection hv136_3 with hva_ hvn_ hvc_
              rw [hva_] at ge136_3
              rw [hvc_] at ul136_3
              have HL136_3 := Aside0.mk (show Kd.V k70 70 _ w.heap.size _ _ ((rd_T35 l0 x8_1).f1) from Kd.V_mk ul136_3 ge136_3)
              clear hva_ hvn_ hvc_ ge136_3 ul136_3
              clear hcc136 hce136
              have HR136_3 := Aside0.mk hi136_3
              have HC136_3 := Aside0.mk hl136_3
              clear hi136_3 hl136_3
              replace p136 := eq_true p136
              replace q136 := eq_true q136
              have p137 : 0 ≤ (x8_1 : Int) := of_decide_eq_true (by first | (with_reducible assumption) | assumption)
              have q137 : x8_1 < (l0.length : Int) := of_decide_eq_true (by first | (with_reducible assumption) | assumption)
              obtain ⟨ad137, A137_3, c137_3, e137, hx137_0, hx137_1, hx137_2, hx137_3, hx137_4, hx137_5, hx137_6, hl137_3, hi137_3⟩ := at_T35 (Kd.V_reads' HO_0.out).2.2 x8_1 p137 q137
              obtain rfl : ad136 = ad137 := (by injection e137)
              obtain ⟨ce137, hce137, hMe137, hcc137⟩ := Kd.V_get HO_0.out z35 x8_1 p137 (by first | exact q137 | exact of_decide_eq_true (by first | (with_reducible assumption) | assumption) | (have e_ := (Kd.V_reads' HO_0.out).1; omega))
              obtain ⟨ua137_3, uc137_3, rfl, ul137_3, ge137_3⟩ := k35_openF hMe137
              have hv137_3 := hcc137 3 _ rfl
              rw [add_field _ _ 3 (by omega)] at hv137_3
              replace hv137_3 := Option.some.inj (hv137_3.symm.trans hx137_3)
              injection hv137_3 with hva_ hvn_ hvc_
              rw [hva_] at ge137_3
              rw [hvc_] at ul137_3
              have HL137_3 := Aside0.mk (show Kd.V k70 70 _ w.heap.size _ _ ((rd_T35 l0 x8_1).f1) from Kd.V_mk ul137_3 ge137_3)
              clear hva_ hvn_ hvc_ ge137_3 ul137_3
              clear hcc137 hce137
              have HR137_3 := Aside0.mk hi137_3
              have HC137_3 := Aside0.mk hl137_3
              clear hi137_3 hl137_3
              replace p137 := eq_true p137
              replace q137 := eq_true q137
              have ea_ := Option.some.inj (hx136_3.symm.trans hx137_3)
              injection ea_ with ea_ en_ ec_
              subst ea_
              subst ec_
              clear en_
              go_wp2_with (first | ((with_reducible refine gate_builtin (b := .append) (xs := #[.tmp 24, .tmp 29]) rfl ?_); at_builtin; refine Kd.N_append k35 (w0 := w) w.heap.size rfl (.tmp 24) (.tmp 29) 29 35 (.agg #[(.string ⟨#[]⟩), (.int .u16 0), (.int .u16 0), (.slice none 0 0), (.int .i64 0), (.int .i64 0), (.int .u64 0)]) 72 rfl Try.underlying29 info35 rfl (by decide) (by omega) u6 x6_1 (⟨(⟨(rd_T35 l0 x8_1).f0.f0, (rd_T35 l0 x8_1).f0.f1, (rd_T35 l0 x8_1).f0.f2⟩ : S25), (rd_T35 l0 x8_1).f1, (rd_T35 l0 x8_1).f2, (rd_T35 l0 x8_1).f3, (rd_T35 l0 x8_1).f4⟩ : S35) [.string ((rd_T35 l0 x8_1).f0.f0), .int .u16 ((rd_T35 l0 x8_1).f0.f1), .int .u16 ((rd_T35 l0 x8_1).f0.f2), .slice A136_3 ((rd_T35 l0 x8_1).f1).length c136_3, .int .i64 ((rd_T35 l0 x8_1).f2), .int .i64 ((rd_T35 l0 x8_1).f3), .int .u64 ((rd_T35 l0 x8_1).f4)] (fun k_ => (P0_ k_ ∨ w.heap.size ≤ k_) ∧ some k_ ≠ (u7 : Value).ownBlock) (fun k_ => ((fun k_ => (P0_ k_ ∨ w.heap.size ≤ k_) ∧ some k_ ≠ (u7 : Value).ownBlock)) k_ ∧ some k_ ≠ (u6 : Value).ownBlock) rfl rfl ?aP (fun _ hk => hk) ?aF ?aO ?aB ?aS ?aL ?_; (case aP => exact (k35_mkF _ _ (⟨(⟨(rd_T35 l0 x8_1).f0.f0, (rd_T35 l0 x8_1).f0.f1, (rd_T35 l0 x8_1).f0.f2⟩ : S25), (rd_T35 l0 x8_1).f1, (rd_T35 l0 x8_1).f2, (rd_T35 l0 x8_1).f3, (rd_T35 l0 x8_1).f4⟩ : S35) (Kd.V_reads' (Kd.V_mono (ok' := (fun k_ => ((fun k_ => (P0_ k_ ∨ w.heap.size ≤ k_) ∧ some k_ ≠ (u7 : Value).ownBlock)) k_ ∧ some k_ ≠ (u6 : Value).ownBlock)) (HL137_3.out) (fun k_ hk => ⟨⟨hk.1, hk.2.2⟩, hk.2.1⟩))).2.1 (Kd.V_F (Kd.V_mono (ok' := (fun k_ => ((fun k_ => (P0_ k_ ∨ w.heap.size ≤ k_) ∧ some k_ ≠ (u7 : Value).ownBlock)) k_ ∧ some k_ ≠ (u6 : Value).ownBlock)) (HL137_3.out) (fun k_ hk => ⟨⟨hk.1, hk.2.2⟩, hk.2.1⟩))))); (case aB => exact (by repeat (first | (with_reducible first | exact HB.out | apply below_alloc | apply pw_below_drewN | apply below_drew1) | exact HB.out))); (case aF => exact (fun k_ hk => ⟨(.inr (Nat.le_trans (below_size (by repeat (first | (with_reducible first | exact HB.out | apply below_alloc | apply pw_below_drewN | apply below_drew1) | exact HB.out))) hk)), Kd.fresh' (Kd.R_lt (by (with_reducible repeat (first | apply Kd.R_alloc | apply Kd.R_drewN | apply Kd.R_drew)); exact HO_7.out)) k_ hk⟩)); (case aO => exact (by (with_reducible repeat (first | apply Kd.N_alloc | apply Kd.N_drewN | apply Kd.N_drew)); exact HO_6.out)); (case aS => exact (below_size (by repeat (first | (with_reducible first | exact HB.out | apply below_alloc | apply pw_below_drewN | apply below_drew1) | exact HB.out)))); (case aL => have := LMc6.out; omega); intro v139 w7 ho hb hg hat; rw [← Ny138.out] at ho; have n0_ := Aside0.mk (Kd.V_afterv (ok := (fun k_ => (P0_ k_ ∨ w.heap.size ≤ k_) ∧ some k_ ≠ (u7 : Value).ownBlock)) (by (with_reducible repeat (first | apply Kd.V_alloc | apply Kd.V_drewN | apply Kd.V_drew)); exact Kd.V_mono HO_0.out (fun _ hk => ⟨⟨hk.1, hk.2.2⟩, hk.2.1⟩)) hg hat); have n1_ := Aside0.mk (Kd.R_over' (by (with_reducible repeat (first | apply Kd.R_alloc | apply Kd.R_drewN | apply Kd.R_drew)); exact HO_7.out) (Kd.N_typed (by (with_reducible repeat (first | apply Kd.N_alloc | apply Kd.N_drewN | apply Kd.N_drew)); exact HO_6.out)) (by decide) hg); have n2_ := Aside0.mk (Kd.V_afterv (ok := (fun k_ => (P0_ k_ ∨ w.heap.size ≤ k_) ∧ some k_ ≠ (u7 : Value).ownBlock)) (by (with_reducible repeat (first | apply Kd.V_alloc | apply Kd.V_drewN | apply Kd.V_drew)); exact Kd.V_mono HL136_3.out (fun _ hk => ⟨⟨hk.1, hk.2.2⟩, hk.2.1⟩)) hg hat); have n3_ := Aside0.mk (Kd.V_afterv (ok := (fun k_ => (P0_ k_ ∨ w.heap.size ≤ k_) ∧ some k_ ≠ (u7 : Value).ownBlock)) (by (with_reducible repeat (first | apply Kd.V_alloc | apply Kd.V_drewN | apply Kd.V_drew)); exact Kd.V_mono HL137_3.out (fun _ hk => ⟨⟨hk.1, hk.2.2⟩, hk.2.1⟩)) hg hat); have n4_ := Aside0.mk (hb); have n5_ := Aside0.mk (ho); clear HO_0; clear HO_7; clear HL136_3; clear HL137_3; clear HB; clear HO_6; have HO_0 := n0_; have HO_7 := n1_; have HL136_3 := n2_; have HL137_3 := n3_; have HB := n4_; have HO140 := n5_; clear n0_ n1_ n2_ n3_ n4_ n5_; clear ho hb hg hat))
              go_roundg k1
              case measure => have := HK1.out; omega
              case rel => exact ⟨(y138), (x7_1), (wrap64 (x8_1 + 1)), (by first | rfl | (simp; done) | (simp [*]; done)), H', ⟨by have := HK1.out; omega⟩, ⟨by (with_reducible repeat (first | apply Kd.V_alloc | apply Kd.V_drewN | apply Kd.V_drew)); exact Kd.V_mono HO_0.out (fun _ hk => ⟨hk.1.1, ⟨hk.2, hk.1.2⟩⟩)⟩, ⟨by (with_reducible repeat (first | apply Kd.N_alloc | apply Kd.N_drewN | apply Kd.N_drew)); exact HO140.out⟩, ⟨by (with_reducible repeat (first | apply Kd.R_alloc | apply Kd.R_drewN | apply Kd.R_drew)); exact HO_7.out⟩, ⟨by repeat (first | (with_reducible first | exact HB.out | apply below_alloc | apply pw_below_drewN | apply below_drew1) | exact HB.out)⟩⟩
            · rw [if_neg c6] at H
              exact absurd H (by simp)
          · rw [if_neg c5] at H
            have c5b0 : decide (a1 < ((rd_T35 l0 x8_1).f4)) = false := decide_eq_false c5
            clear c5
            have H' := Aside0.mk H
            clear H
            have p136 : 0 ≤ (x8_1 : Int) := of_decide_eq_true (by first | (with_reducible assumption) | assumption)
            have q136 : x8_1 < (l0.length : Int) := of_decide_eq_true (by first | (with_reducible assumption) | assumption)
            obtain ⟨ad136, A136_3, c136_3, e136, hx136_0, hx136_1, hx136_2, hx136_3, hx136_4, hx136_5, hx136_6, hl136_3, hi136_3⟩ := at_T35 (Kd.V_reads' HO_0.out).2.2 x8_1 p136 q136
            cases e136
            obtain ⟨ce136, hce136, hMe136, hcc136⟩ := Kd.V_get HO_0.out z35 x8_1 p136 (by first | exact q136 | exact of_decide_eq_true (by first | (with_reducible assumption) | assumption) | (have e_ := (Kd.V_reads' HO_0.out).1; omega))
            obtain ⟨ua136_3, uc136_3, rfl, ul136_3, ge136_3⟩ := k35_openF hMe136
            have hv136_3 := hcc136 3 _ rfl
            rw [add_field _ _ 3 (by omega)] at hv136_3
            replace hv136_3 := Option.some.inj (hv136_3.symm.trans hx136_3)
            injection hv136_3 with hva_ hvn_ hvc_
            rw [hva_] at ge136_3
            rw [hvc_] at ul136_3
            have HL136_3 := Aside0.mk (show Kd.V k70 70 _ w.heap.size _ _ ((rd_T35 l0 x8_1).f1) from Kd.V_mk ul136_3 ge136_3)
            clear hva_ hvn_ hvc_ ge136_3 ul136_3
            clear hcc136 hce136
            have HR136_3 := Aside0.mk hi136_3
            have HC136_3 := Aside0.mk hl136_3
            clear hi136_3 hl136_3
            replace p136 := eq_true p136
            replace q136 := eq_true q136
            go_wp2
            go_loopg [9] k1 (fun kq v9 w' => ∃ (x9_2 : Int), v9 = .int .i64 x9_2 ∧ Aside0 (derrickref13_Due.l1 kq l0 a1 x6_1 x7_1 x8_1 x9_2 = some (r1, r2)) ∧ Aside0 (kq ≤ k1) ∧ Aside0 (Kd.V k35 35 w' w.heap.size (fun k_ => (P0_ k_ ∨ w.heap.size ≤ k_) ∧ some k_ ≠ (u6 : Value).ownBlock ∧ some k_ ≠ (u7 : Value).ownBlock) (.slice (some ad136) l0.length c0) l0) ∧ Aside0 (Kd.N k35 35 w' w.heap.size (fun k_ => (P0_ k_ ∨ w.heap.size ≤ k_) ∧ some k_ ≠ (u7 : Value).ownBlock) u6 x6_1) ∧ Aside0 (Kd.R k25 25 w' w.heap.size (fun k_ => (w.heap.size ≤ k_)) u7 x7_1) ∧ Aside0 (Kd.C k70 w' A136_3 ((rd_T35 l0 x8_1).f1).length ((rd_T35 l0 x8_1).f1)) ∧ Aside0 (Below w.heap.size w w'))
            case atStart => exact ⟨(0), (by first | rfl | (simp; done) | (simp [*]; done)), H', ⟨Nat.le_refl _⟩, ⟨by (with_reducible repeat (first | apply Kd.V_alloc | apply Kd.V_drewN | apply Kd.V_drew)); exact HO_0.out⟩, ⟨by (with_reducible repeat (first | apply Kd.N_alloc | apply Kd.N_drewN | apply Kd.N_drew)); exact HO_6.out⟩, ⟨by (with_reducible repeat (first | apply Kd.R_alloc | apply Kd.R_drewN | apply Kd.R_drew)); exact HO_7.out⟩, ⟨by repeat (first | (with_reducible exact HR136_3.out) | (with_reducible refine Kd.C_alloc ?_ _) | (with_reducible refine Kd.C_drewN ?_ _) | (with_reducible refine Kd.C_drew ?_) | exact HR136_3.out)⟩, ⟨by repeat (first | (with_reducible first | exact HB.out | apply below_alloc | apply pw_below_drewN | apply below_drew1) | exact HB.out)⟩⟩
            case round =>
              clear H'
              try clear c1
              try clear p1
              try clear q1
              try clear hx1
              try clear c2
              try clear p2
              try clear c3
              try clear c3b0
              try clear c4
              try clear c4b0
              try clear c5
              try clear c5b0
              try clear c6
              try clear p6
              try clear hx136_0
              try clear hx136_1
              try clear hx136_2
              try clear hx136_3
              try clear hx136_4
              try clear hx136_5
              try clear hx136_6
              try clear hx137_0
              try clear hx137_1
              try clear hx137_2
              try clear hx137_3
              try clear hx137_4
              try clear hx137_5
              try clear hx137_6
              try clear p136
              try clear p137
              try clear p2
              try clear q136
              try clear q137
              obtain ⟨x9_2, rfl, HA, HK2, HO_0, HO_6, HO_7, HR136_3, HB⟩ := hrel
              cases gk with
              | zero => exact absurd HA.out (by simp [derrickref13_Due.l1])
              | succ k2 =>
                have H := HA.out
                clear HA
                simp only [derrickref13_Due.l1] at H
                by_cases c8 : x9_2 < (x7_1.length : Int)
                · rw [if_pos c8] at H
                  have c8b0 : decide (x9_2 < (x7_1.length : Int)) = true := decide_eq_true c8
                  clear c8
                  by_cases c9 : 0 ≤ x9_2
                  · rw [if_pos c9] at H
                    have c9b0 : decide (0 ≤ x9_2) = true := decide_eq_true c9
                    clear c9
                    by_cases c10 : 0 ≤ x8_1
                    · rw [if_pos c10] at H
                      have c10b0 : decide (0 ≤ x8_1) = true := decide_eq_true c10
                      clear c10
                      by_cases c11 : x8_1 < (l0.length : Int)
                      · rw [if_pos c11] at H
                        have c11b0 : decide (x8_1 < (l0.length : Int)) = true := decide_eq_true c11
                        clear c11
                        replace H := Option.bind_eq_some_iff.mp H
                        obtain ⟨t143, A120, H⟩ := H
                        replace H : (if t143 = true then (derrickref13_Due.l1 k2 l0 a1 x6_1 x7_1 x8_1 (wrap64 (x9_2 + 1))) else ((some (([] : List (S25)) : List (S25))).bind fun y144 => (if x9_2 ≤ (x7_1.length : Int) then ((some (x7_1.take (x9_2 : Int).toNat : List (S25))).bind fun y147 => (if y144.length + y147.length < 5864062014805 then ((some (y144 ++ y147 : List (S25))).bind fun y152 => (if y152.length < 5864062014805 then ((some (y152 ++ [(⟨(rd_T35 l0 x8_1).f0.f0, (rd_T35 l0 x8_1).f0.f1, (rd_T35 l0 x8_1).f0.f2⟩ : S25)] : List (S25))).bind fun y156 => ((some (x7_1.drop (x9_2 : Int).toNat : List (S25))).bind fun y159 => (if y156.length + y159.length < 5864062014805 then (derrickref13_Due.l0 k2 l0 a1 x6_1 (y156 ++ y159) (wrap64 (x8_1 + 1))) else (none)))) else (none))) else (none))) else (none)))) = some (r1, r2) := H
                        have A12 := Aside0.mk A120
                        clear A120
                        by_cases c13 : t143 = true
                        · subst c13
                          have H1 : (derrickref13_Due.l1 k2 l0 a1 x6_1 x7_1 x8_1 (wrap64 (x9_2 + 1))) = some (r1, r2) := by rw [if_pos rfl] at H; exact H
                          clear H
                          have H := H1
                          clear H1
                          have H' := Aside0.mk H
                          clear H
                          try go_wp2
                          have n0_ := Aside0.mk (Kd.V_drew HO_0.out)
                          have n1_ := Aside0.mk (Kd.N_drew HO_6.out)
                          have n2_ := Aside0.mk (Kd.R_drew HO_7.out)
                          have n3_ := Aside0.mk (Kd.C_drew HR136_3.out)
                          have n4_ := Aside0.mk (below_drew1 HB.out)
                          clear HO_0
                          clear HO_6
                          clear HO_7
                          clear HR136_3
                          clear HB
                          have HO_0 := n0_
                          have HO_6 := n1_
                          have HO_7 := n2_
                          have HR136_3 := n3_
                          have HB := n4_
                          clear n0_ n1_ n2_ n3_ n4_
                          obtain ⟨Ao15, co15, eo15⟩ := Kd.R_slice HO_7.out
                          (first | subst eo15 | (injection eo15 with f1_ f2_ f3_; have f4_ := f1_.symm; have f5_ := f3_.symm; clear f1_ f2_ f3_; subst f4_; subst f5_))
                          have p141 : 0 ≤ (x9_2 : Int) := of_decide_eq_true (by first | (with_reducible assumption) | assumption)
                          have q141 : x9_2 < (x7_1.length : Int) := of_decide_eq_true (by first | (with_reducible assumption) | assumption)
                          obtain ⟨ad141, e141, hx141_0, hx141_1, hx141_2⟩ := at_T25 (Kd.R_reads' HO_7.out).2.2 x9_2 p141 q141
                          cases e141
                          replace p141 := eq_true p141
                          replace q141 := eq_true q141
                          have p142 : 0 ≤ (x8_1 : Int) := of_decide_eq_true (by first | (with_reducible assumption) | assumption)
                          have q142 : x8_1 < (l0.length : Int) := of_decide_eq_true (by first | (with_reducible assumption) | assumption)
                          obtain ⟨ad142, A142_3, c142_3, e142, hx142_0, hx142_1, hx142_2, hx142_3, hx142_4, hx142_5, hx142_6, hl142_3, hi142_3⟩ := at_T35 (Kd.V_reads' HO_0.out).2.2 x8_1 p142 q142
                          obtain rfl : ad136 = ad142 := (by injection e142)
                          obtain ⟨ce142, hce142, hMe142, hcc142⟩ := Kd.V_get HO_0.out z35 x8_1 p142 (by first | exact q142 | exact of_decide_eq_true (by first | (with_reducible assumption) | assumption) | (have e_ := (Kd.V_reads' HO_0.out).1; omega))
                          obtain ⟨ua142_3, uc142_3, rfl, ul142_3, ge142_3⟩ := k35_openF hMe142
                          have hv142_3 := hcc142 3 _ rfl
                          rw [add_field _ _ 3 (by omega)] at hv142_3
                          replace hv142_3 := Option.some.inj (hv142_3.symm.trans hx142_3)
                          injection hv142_3 with hva_ hvn_ hvc_
                          rw [hva_] at ge142_3
                          rw [hvc_] at ul142_3
                          have HL142_3 := Aside0.mk (show Kd.V k70 70 _ w.heap.size _ _ ((rd_T35 l0 x8_1).f1) from Kd.V_mk ul142_3 ge142_3)
                          clear hva_ hvn_ hvc_ ge142_3 ul142_3
                          clear hcc142 hce142
                          have HR142_3 := Aside0.mk hi142_3
                          have HC142_3 := Aside0.mk hl142_3
                          clear hi142_3 hl142_3
                          replace p142 := eq_true p142
                          replace q142 := eq_true q142
                          refine start_ (n := 16) (S := fun w' => w'.cell? (ad141.add ((x9_2).toNat * 3)) = some (.string ((rd_T25 x7_1 x9_2).f0)) ∧ w'.cell? ⟨(ad141.add ((x9_2).toNat * 3)).block, (ad141.add ((x9_2).toNat * 3)).off + 1, none⟩ = some (.int .u16 ((rd_T25 x7_1 x9_2).f1)) ∧ w'.cell? ⟨(ad141.add ((x9_2).toNat * 3)).block, (ad141.add ((x9_2).toNat * 3)).off + 2, none⟩ = some (.int .u16 ((rd_T25 x7_1 x9_2).f2)) ∧ w'.cell? (ad136.add ((x8_1).toNat * 7)) = some (.string ((rd_T35 l0 x8_1).f0.f0)) ∧ w'.cell? ⟨(ad136.add ((x8_1).toNat * 7)).block, (ad136.add ((x8_1).toNat * 7)).off + 1, none⟩ = some (.int .u16 ((rd_T35 l0 x8_1).f0.f1)) ∧ w'.cell? ⟨(ad136.add ((x8_1).toNat * 7)).block, (ad136.add ((x8_1).toNat * 7)).off + 2, none⟩ = some (.int .u16 ((rd_T35 l0 x8_1).f0.f2)) ∧ w'.cell? ⟨(ad136.add ((x8_1).toNat * 7)).block, (ad136.add ((x8_1).toNat * 7)).off + 3, none⟩ = some (.slice A142_3 ((rd_T35 l0 x8_1).f1).length c142_3) ∧ w'.cell? ⟨(ad136.add ((x8_1).toNat * 7)).block, (ad136.add ((x8_1).toNat * 7)).off + 4, none⟩ = some (.int .i64 ((rd_T35 l0 x8_1).f2)) ∧ w'.cell? ⟨(ad136.add ((x8_1).toNat * 7)).block, (ad136.add ((x8_1).toNat * 7)).off + 5, none⟩ = some (.int .i64 ((rd_T35 l0 x8_1).f3)) ∧ w'.cell? ⟨(ad136.add ((x8_1).toNat * 7)).block, (ad136.add ((x8_1).toNat * 7)).off + 6, none⟩ = some (.int .u64 ((rd_T35 l0 x8_1).f4))) (ds := []) #[false, false, false, false, false, false, false, false, false, false, false, false, false, false, false, false] (by kernel_rfl) rfl rfl ⟨hx141_0, hx141_1, hx141_2, hx142_0, hx142_1, hx142_2, hx142_3, hx142_4, hx142_5, hx142_6⟩ (fun hHeld => ?_); refine with_tabW derrickref13_Due.tab9 derrickref13_Due.bits9 (fun HT_ HW_ => ?_)
                          generalize wr.drew = w14 at HO_0 HO_6 HO_7 HR136_3 HB HL142_3 HR142_3 hx141_0 hx141_1 hx141_2 hx142_0 hx142_1 hx142_2 hx142_3 hx142_4 hx142_5 hx142_6 hHeld ⊢
                          refine pure_ (i := 0) (N := some 31) (v := ?_) (a' := ?_) #[true, false, false, false, false, false, false, false, false, false, false, false, false, false, false, false] rfl rfl (any_of HT_.out (by kernel_rfl)) (fun _ _ _ h => h) (Or.inl ⟨by rfl, ?_⟩) ?_ ?_
                          rotate_left
                          · intro w'
                            go_simp
                            with_reducible rfl
                          rotate_left
                          · simp only [Act.put, List.setIfInBounds_toArray, List.set_cons_zero, List.set_cons_succ, i64_w, i32_w]
                            rfl
                          refine pure_ (i := 1) (N := some 32) (v := ?_) (a' := ?_) #[true, true, false, false, false, false, false, false, false, false, false, false, false, false, false, false] rfl rfl (any_of HT_.out (by kernel_rfl)) (fun _ _ _ h => h) (Or.inl ⟨by rfl, ?_⟩) ?_ ?_
                          rotate_left
                          · intro w'
                            go_simp
                            with_reducible rfl
                          rotate_left
                          · simp only [Act.put, List.setIfInBounds_toArray, List.set_cons_zero, List.set_cons_succ, i64_w, i32_w]
                            rfl
                          refine pure_ (i := 2) (N := some 33) (v := ?_) (a' := ?_) #[true, true, true, false, false, false, false, false, false, false, false, false, false, false, false, false] rfl rfl (any_of HT_.out (by kernel_rfl)) (fun _ _ _ h => h) (Or.inl ⟨by rfl, ?_⟩) ?_ ?_
                          rotate_left
                          · intro w'
                            go_simp
                            with_reducible rfl
                          rotate_left
                          · simp only [Act.put, List.setIfInBounds_toArray, List.set_cons_zero, List.set_cons_succ, i64_w, i32_w]
                            rfl
                          refine pure_ (i := 3) (N := some 34) (v := ?_) (a' := ?_) #[true, true, true, true, false, false, false, false, false, false, false, false, false, false, false, false] rfl rfl (any_of HT_.out (by kernel_rfl)) (fun _ _ _ h => h) (Or.inl ⟨by rfl, ?_⟩) ?_ ?_
                          rotate_left
                          · intro w'
                            go_simp
                            with_reducible rfl
                          rotate_left
                          · simp only [Act.put, List.setIfInBounds_toArray, List.set_cons_zero, List.set_cons_succ, i64_w, i32_w]
                            rfl
                          refine pure_ (i := 4) (N := some 35) (v := ?_) (a' := ?_) #[true, true, true, true, true, false, false, false, false, false, false, false, false, false, false, false] rfl rfl (any_of HT_.out (by kernel_rfl)) (fun _ _ _ h => h) (Or.inl ⟨by rfl, ?_⟩) ?_ ?_
                          rotate_left
                          · intro w'
                            go_simp
                            with_reducible rfl
                          rotate_left
                          · simp only [Act.put, List.setIfInBounds_toArray, List.set_cons_zero, List.set_cons_succ, i64_w, i32_w]
                            rfl
                          refine pure_ (i := 5) (N := some 36) (v := ?_) (a' := ?_) #[true, true, true, true, true, true, false, false, false, false, false, false, false, false, false, false] rfl rfl (any_of HT_.out (by kernel_rfl)) (fun _ _ _ h => h) (Or.inl ⟨by rfl, ?_⟩) ?_ ?_
                          rotate_left
                          · intro w'
                            go_simp
                            with_reducible rfl
                          rotate_left
                          · simp only [Act.put, List.setIfInBounds_toArray, List.set_cons_zero, List.set_cons_succ, i64_w, i32_w]
                            rfl
                          refine pure_ (i := 6) (N := some 37) (v := ?_) (a' := ?_) #[true, true, true, true, true, true, true, false, false, false, false, false, false, false, false, false] rfl rfl (any_of HT_.out (by kernel_rfl)) (fun _ _ _ h => h) (Or.inl ⟨by rfl, ?_⟩) ?_ ?_
                          rotate_left
                          · intro w'
                            go_simp
                            with_reducible rfl
                          rotate_left
                          · simp only [Act.put, List.setIfInBounds_toArray, List.set_cons_zero, List.set_cons_succ, i64_w, i32_w]
                            rfl
                          refine pure_ (i := 7) (N := some 38) (v := ?_) (a' := ?_) #[true, true, true, true, true, true, true, true, false, false, false, false, false, false, false, false] rfl rfl (any_of HT_.out (by kernel_rfl)) (fun _ _ _ h => h) (Or.inl ⟨by rfl, ?_⟩) ?_ ?_
                          rotate_left
                          · intro w'
                            go_simp
                            with_reducible rfl
                          rotate_left
                          · simp only [Act.put, List.setIfInBounds_toArray, List.set_cons_zero, List.set_cons_succ, i64_w, i32_w]
                            rfl
                          refine pure_ (i := 9) (N := some 40) (v := ?_) (a' := ?_) #[true, true, true, true, true, true, true, true, false, true, false, false, false, false, false, false] rfl rfl (any_of HT_.out (by kernel_rfl)) (fun _ _ _ h => h) (Or.inl ⟨by rfl, ?_⟩) ?_ ?_
                          rotate_left
                          · intro w'
                            go_simp
                            with_reducible rfl
                          rotate_left
                          · simp only [Act.put, List.setIfInBounds_toArray, List.set_cons_zero, List.set_cons_succ, i64_w, i32_w]
                            rfl
                          refine pure_ (i := 10) (N := some 41) (v := ?_) (a' := ?_) #[true, true, true, true, true, true, true, true, false, true, true, false, false, false, false, false] rfl rfl (any_of HT_.out (by kernel_rfl)) (fun _ _ _ h => h) (Or.inl ⟨by rfl, ?_⟩) ?_ ?_
                          rotate_left
                          · intro w'
                            go_simp
                            with_reducible rfl
                          rotate_left
                          · simp only [Act.put, List.setIfInBounds_toArray, List.set_cons_zero, List.set_cons_succ, i64_w, i32_w]
                            rfl
                          refine pure_ (i := 11) (N := some 42) (v := ?_) (a' := ?_) #[true, true, true, true, true, true, true, true, false, true, true, true, false, false, false, false] rfl rfl (any_of HT_.out (by kernel_rfl)) (fun _ _ _ h => h) (Or.inl ⟨by rfl, ?_⟩) ?_ ?_
                          rotate_left
                          · intro w'
                            go_simp
                            with_reducible rfl
                          rotate_left
                          · simp only [Act.put, List.setIfInBounds_toArray, List.set_cons_zero, List.set_cons_succ, i64_w, i32_w]
                            rfl
                          refine pure_ (i := 12) (N := some 43) (v := ?_) (a' := ?_) #[true, true, true, true, true, true, true, true, false, true, true, true, true, false, false, false] rfl rfl (any_of HT_.out (by kernel_rfl)) (fun _ _ _ h => h) (Or.inl ⟨by rfl, ?_⟩) ?_ ?_
                          rotate_left
                          · intro w'
                            go_simp
                            with_reducible rfl
                          rotate_left
                          · simp only [Act.put, List.setIfInBounds_toArray, List.set_cons_zero, List.set_cons_succ, i64_w, i32_w]
                            rfl
                          refine take_ (i := 8) (N := some 39) (v := ?_) (a' := ?_) #[true, true, true, true, true, true, true, true, true, true, true, true, true, false, false, false] rfl rfl (take_ofW HT_.out HW_.out (by kernel_rfl)) (fun _ _ _ h => h) (Or.inl ⟨by rfl, ?_⟩) hHeld ?_ ?_
                          rotate_left
                          · rintro w' ⟨s0, s1, s2, s3, s4, s5, s6, s7, s8, s9⟩
                            go_simp
                            with_reducible rfl
                          rotate_left
                          · simp only [Act.put, List.setIfInBounds_toArray, List.set_cons_zero, List.set_cons_succ, i64_w, i32_w]
                            rfl
                          refine take_ (i := 13) (N := some 44) (v := ?_) (a' := ?_) #[true, true, true, true, true, true, true, true, true, true, true, true, true, true, false, false] rfl rfl (take_ofW HT_.out HW_.out (by kernel_rfl)) (fun _ _ _ h => h) (Or.inl ⟨by rfl, ?_⟩) hHeld ?_ ?_
                          rotate_left
                          · rintro w' ⟨s0, s1, s2, s3, s4, s5, s6, s7, s8, s9⟩
                            go_simp
                            with_reducible rfl
                          rotate_left
                          · simp only [Act.put, List.setIfInBounds_toArray, List.set_cons_zero, List.set_cons_succ, i64_w, i32_w]
                            rfl
                          refine one_ (i := 14) (N := some 45) #[true, true, true, true, true, true, true, true, true, true, true, true, true, true, true, false] rfl rfl (one_of HT_.out (by kernel_rfl)) (by decide) (fun K hK => ?_)
                          refine goes_ Try.func22 (by kernel_rfl) rfl #[.agg #[.string ((rd_T25 x7_1 x9_2).f0), .int .u16 ((rd_T25 x7_1 x9_2).f1), .int .u16 ((rd_T25 x7_1 x9_2).f2)], .agg #[.string ((rd_T35 l0 x8_1).f0.f0), .int .u16 ((rd_T35 l0 x8_1).f0.f1), .int .u16 ((rd_T35 l0 x8_1).f0.f2)]] (by rfl) rfl rfl (by (try simp only [List.map_toArray, List.map_cons, List.map_nil]); first | done | rfl | (simp only [List.length_drop, List.length_take]; rfl)) ?_
                          with_reducible refine (derrickref13_Less.calls ((rd_T25 x7_1 x9_2).f0) ((rd_T25 x7_1 x9_2).f1) ((rd_T25 x7_1 x9_2).f2) ((rd_T35 l0 x8_1).f0.f0) ((rd_T35 l0 x8_1).f0.f1) ((rd_T35 l0 x8_1).f0.f2) true _ A12.out).mono ?_
                          rintro e w16 ⟨rfl, hb⟩
                          have HS0_ := (hb.cell (World.block_lt_of_cell? _ _ (hHeld.1))).trans (hHeld.1)
                          have HS1_ := (hb.cell (World.block_lt_of_cell? _ _ (hHeld.2.1))).trans (hHeld.2.1)
                          have HS2_ := (hb.cell (World.block_lt_of_cell? _ _ (hHeld.2.2.1))).trans (hHeld.2.2.1)
                          have HS3_ := (hb.cell (World.block_lt_of_cell? _ _ (hHeld.2.2.2.1))).trans (hHeld.2.2.2.1)
                          have HS4_ := (hb.cell (World.block_lt_of_cell? _ _ (hHeld.2.2.2.2.1))).trans (hHeld.2.2.2.2.1)
                          have HS5_ := (hb.cell (World.block_lt_of_cell? _ _ (hHeld.2.2.2.2.2.1))).trans (hHeld.2.2.2.2.2.1)
                          have HS6_ := (hb.cell (World.block_lt_of_cell? _ _ (hHeld.2.2.2.2.2.2.1))).trans (hHeld.2.2.2.2.2.2.1)
                          have HS7_ := (hb.cell (World.block_lt_of_cell? _ _ (hHeld.2.2.2.2.2.2.2.1))).trans (hHeld.2.2.2.2.2.2.2.1)
                          have HS8_ := (hb.cell (World.block_lt_of_cell? _ _ (hHeld.2.2.2.2.2.2.2.2.1))).trans (hHeld.2.2.2.2.2.2.2.2.1)
                          have HS9_ := (hb.cell (World.block_lt_of_cell? _ _ (hHeld.2.2.2.2.2.2.2.2.2))).trans (hHeld.2.2.2.2.2.2.2.2.2)
                          refine ⟨_, rfl, ?_⟩
                          have n0_ := Aside0.mk (Kd.V_below (by (with_reducible repeat (first | apply Kd.V_alloc | apply Kd.V_drewN | apply Kd.V_drew)); exact HO_0.out) hb)
                          have n1_ := Aside0.mk (Kd.N_below (by (with_reducible repeat (first | apply Kd.N_alloc | apply Kd.N_drewN | apply Kd.N_drew)); exact HO_6.out) hb)
                          have n2_ := Aside0.mk (Kd.R_below (by (with_reducible repeat (first | apply Kd.R_alloc | apply Kd.R_drewN | apply Kd.R_drew)); exact HO_7.out) hb)
                          have n3_ := Aside0.mk (Kd.V_below (by (with_reducible repeat (first | apply Kd.V_alloc | apply Kd.V_drewN | apply Kd.V_drew)); exact HL142_3.out) hb)
                          have n4_ := Aside0.mk (Kd.C_below (by repeat (first | (with_reducible exact HR136_3.out) | (with_reducible refine Kd.C_alloc ?_ _) | (with_reducible refine Kd.C_drewN ?_ _) | (with_reducible refine Kd.C_drew ?_) | exact HR136_3.out)) hb)
                          have n5_ := Aside0.mk (Kd.C_below (by repeat (first | (with_reducible exact HR142_3.out) | (with_reducible refine Kd.C_alloc ?_ _) | (with_reducible refine Kd.C_drewN ?_ _) | (with_reducible refine Kd.C_drew ?_) | exact HR142_3.out)) hb)
                          have n6_ := Aside0.mk (below_step (by repeat (first | (with_reducible first | exact HB.out | apply below_alloc | apply pw_below_drewN | apply below_drew1) | exact HB.out)) hb)
                          clear HO_0
                          clear HO_6
                          clear HO_7
                          clear HL142_3
                          clear HR136_3
                          clear HR142_3
                          clear HB
                          have HO_0 := n0_
                          have HO_6 := n1_
                          have HO_7 := n2_
                          have HL142_3 := n3_
                          have HR136_3 := n4_
                          have HR142_3 := n5_
                          have HB := n6_
                          clear n0_ n1_ n2_ n3_ n4_ n5_ n6_
                          (try clear hb)
                          (try clear hb2)
                          (try clear hk)
                          (try clear hi)
                          refine hK.out _ _ ⟨HS0_, HS1_, HS2_, HS3_, HS4_, HS5_, HS6_, HS7_, HS8_, HS9_⟩ (fun hHeld => ?_)
                          clear hK K
                          refine norm_ (a' := ?_) ?_ ?_
                          rotate_left
                          · show Act.put _ (some 45) _ = _
                            simp only [Act.put, List.setIfInBounds_toArray, List.set_cons_zero, List.set_cons_succ, i64_w, i32_w]
                            rfl
                          refine pure_ (i := 15) (N := some 46) (v := ?_) (a' := ?_) #[true, true, true, true, true, true, true, true, true, true, true, true, true, true, true, true] rfl rfl (any_of HT_.out (by kernel_rfl)) (fun _ _ _ h => h) (Or.inl ⟨by rfl, ?_⟩) ?_ ?_
                          rotate_left
                          · intro w'
                            go_simp
                            with_reducible rfl
                          rotate_left
                          · simp only [Act.put, List.setIfInBounds_toArray, List.set_cons_zero, List.set_cons_succ, i64_w, i32_w]
                            rfl
                          refine done_ (done_of HT_.out (by kernel_rfl)) ?_
                          try go_wp2
                          go_roundg k2
                          case measure => have := HK1.out; have := HK2.out; omega
                          case rel => exact ⟨(wrap64 (x9_2 + 1)), (by first | rfl | (simp; done) | (simp [*]; done)), H', ⟨by have := HK1.out; have := HK2.out; omega⟩, ⟨by (with_reducible repeat (first | apply Kd.V_alloc | apply Kd.V_drewN | apply Kd.V_drew)); exact HO_0.out⟩, ⟨by (with_reducible repeat (first | apply Kd.N_alloc | apply Kd.N_drewN | apply Kd.N_drew)); exact HO_6.out⟩, ⟨by (with_reducible repeat (first | apply Kd.R_alloc | apply Kd.R_drewN | apply Kd.R_drew)); exact HO_7.out⟩, ⟨by repeat (first | (with_reducible exact HR136_3.out) | (with_reducible refine Kd.C_alloc ?_ _) | (with_reducible refine Kd.C_drewN ?_ _) | (with_reducible refine Kd.C_drew ?_) | exact HR136_3.out)⟩, ⟨by repeat (first | (with_reducible first | exact HB.out | apply below_alloc | apply pw_below_drewN | apply below_drew1) | exact HB.out)⟩⟩
                        · replace c13 := Bool.eq_false_iff.mpr c13
                          subst c13
                          have H1 : ((some (([] : List (S25)) : List (S25))).bind fun y144 => (if x9_2 ≤ (x7_1.length : Int) then ((some (x7_1.take (x9_2 : Int).toNat : List (S25))).bind fun y147 => (if y144.length + y147.length < 5864062014805 then ((some (y144 ++ y147 : List (S25))).bind fun y152 => (if y152.length < 5864062014805 then ((some (y152 ++ [(⟨(rd_T35 l0 x8_1).f0.f0, (rd_T35 l0 x8_1).f0.f1, (rd_T35 l0 x8_1).f0.f2⟩ : S25)] : List (S25))).bind fun y156 => ((some (x7_1.drop (x9_2 : Int).toNat : List (S25))).bind fun y159 => (if y156.length + y159.length < 5864062014805 then (derrickref13_Due.l0 k2 l0 a1 x6_1 (y156 ++ y159) (wrap64 (x8_1 + 1))) else (none)))) else (none))) else (none))) else (none))) = some (r1, r2) := by rw [if_neg (show ¬ (false = true) by decide)] at H; exact H
                          clear H
                          have H := H1
                          clear H1
                          obtain ⟨y144, hy144⟩ : ∃ y_ : List (S25), y_ = (([] : List (S25))) := ⟨_, rfl⟩
                          replace H : (if x9_2 ≤ (x7_1.length : Int) then ((some (x7_1.take (x9_2 : Int).toNat : List (S25))).bind fun y147 => (if y144.length + y147.length < 5864062014805 then ((some (y144 ++ y147 : List (S25))).bind fun y152 => (if y152.length < 5864062014805 then ((some (y152 ++ [(⟨(rd_T35 l0 x8_1).f0.f0, (rd_T35 l0 x8_1).f0.f1, (rd_T35 l0 x8_1).f0.f2⟩ : S25)] : List (S25))).bind fun y156 => ((some (x7_1.drop (x9_2 : Int).toNat : List (S25))).bind fun y159 => (if y156.length + y159.length < 5864062014805 then (derrickref13_Due.l0 k2 l0 a1 x6_1 (y156 ++ y159) (wrap64 (x8_1 + 1))) else (none)))) else (none))) else (none))) else (none)) = some (r1, r2) := by first | (rw [hy144]; with_reducible exact H) | (have H2_ := (Option.bind_some _ _).symm.trans H; rw [hy144]; with_reducible exact H2_) | (have H2_ := (Option.bind_some _ _).symm.trans H; with_reducible exact H2_) | with_reducible exact H | (rw [hy144]; exact H) | exact H
                          have Ny144 := Aside0.mk hy144
                          clear hy144
                          have c17b0 := eq_true (of_decide_eq_true (by first | (with_reducible assumption) | assumption) : 0 ≤ x9_2)
                          by_cases c18 : x9_2 ≤ (x7_1.length : Int)
                          · rw [if_pos c18] at H
                            have c18b0 := eq_true c18
                            have c18b1 : decide (x9_2 ≤ (x7_1.length : Int)) = true := decide_eq_true c18
                            clear c18
                            obtain ⟨y147, hy147⟩ : ∃ y_ : List (S25), y_ = (x7_1.take (x9_2 : Int).toNat) := ⟨_, rfl⟩
                            replace H : (if y144.length + y147.length < 5864062014805 then ((some (y144 ++ y147 : List (S25))).bind fun y152 => (if y152.length < 5864062014805 then ((some (y152 ++ [(⟨(rd_T35 l0 x8_1).f0.f0, (rd_T35 l0 x8_1).f0.f1, (rd_T35 l0 x8_1).f0.f2⟩ : S25)] : List (S25))).bind fun y156 => ((some (x7_1.drop (x9_2 : Int).toNat : List (S25))).bind fun y159 => (if y156.length + y159.length < 5864062014805 then (derrickref13_Due.l0 k2 l0 a1 x6_1 (y156 ++ y159) (wrap64 (x8_1 + 1))) else (none)))) else (none))) else (none)) = some (r1, r2) := by first | (rw [hy147]; with_reducible exact H) | (have H2_ := (Option.bind_some _ _).symm.trans H; rw [hy147]; with_reducible exact H2_) | (have H2_ := (Option.bind_some _ _).symm.trans H; with_reducible exact H2_) | with_reducible exact H | (rw [hy147]; exact H) | exact H
                            have Ny147 := Aside0.mk hy147
                            clear hy147
                            by_cases c19 : y144.length + y147.length < 5864062014805
                            · rw [if_pos c19] at H
                              have LMc19 := Aside0.mk c19
                              clear c19
                              obtain ⟨y152, hy152⟩ : ∃ y_ : List (S25), y_ = (y144 ++ y147) := ⟨_, rfl⟩
                              replace H : (if y152.length < 5864062014805 then ((some (y152 ++ [(⟨(rd_T35 l0 x8_1).f0.f0, (rd_T35 l0 x8_1).f0.f1, (rd_T35 l0 x8_1).f0.f2⟩ : S25)] : List (S25))).bind fun y156 => ((some (x7_1.drop (x9_2 : Int).toNat : List (S25))).bind fun y159 => (if y156.length + y159.length < 5864062014805 then (derrickref13_Due.l0 k2 l0 a1 x6_1 (y156 ++ y159) (wrap64 (x8_1 + 1))) else (none)))) else (none)) = some (r1, r2) := by first | (rw [hy152]; with_reducible exact H) | (have H2_ := (Option.bind_some _ _).symm.trans H; rw [hy152]; with_reducible exact H2_) | (have H2_ := (Option.bind_some _ _).symm.trans H; with_reducible exact H2_) | with_reducible exact H | (rw [hy152]; exact H) | exact H
                              have Ny152 := Aside0.mk hy152
                              clear hy152
                              by_cases c20 : y152.length < 5864062014805
                              · rw [if_pos c20] at H
                                have LMc20 := Aside0.mk c20
                                clear c20
                                obtain ⟨y156, hy156⟩ : ∃ y_ : List (S25), y_ = (y152 ++ [(⟨(rd_T35 l0 x8_1).f0.f0, (rd_T35 l0 x8_1).f0.f1, (rd_T35 l0 x8_1).f0.f2⟩ : S25)]) := ⟨_, rfl⟩
                                replace H : ((some (x7_1.drop (x9_2 : Int).toNat : List (S25))).bind fun y159 => (if y156.length + y159.length < 5864062014805 then (derrickref13_Due.l0 k2 l0 a1 x6_1 (y156 ++ y159) (wrap64 (x8_1 + 1))) else (none))) = some (r1, r2) := by first | (rw [hy156]; with_reducible exact H) | (have H2_ := (Option.bind_some _ _).symm.trans H; rw [hy156]; with_reducible exact H2_) | (have H2_ := (Option.bind_some _ _).symm.trans H; with_reducible exact H2_) | with_reducible exact H | (rw [hy156]; exact H) | exact H
                                have Ny156 := Aside0.mk hy156
                                clear hy156
                                have c21b0 := eq_true (of_decide_eq_true (by first | (with_reducible assumption) | assumption) : 0 ≤ x9_2)
                                have c22b0 := eq_true (of_decide_eq_true (by first | (with_reducible assumption) | assumption) : x9_2 ≤ (x7_1.length : Int))
                                obtain ⟨y159, hy159⟩ : ∃ y_ : List (S25), y_ = (x7_1.drop (x9_2 : Int).toNat) := ⟨_, rfl⟩
                                replace H : (if y156.length + y159.length < 5864062014805 then (derrickref13_Due.l0 k2 l0 a1 x6_1 (y156 ++ y159) (wrap64 (x8_1 + 1))) else (none)) = some (r1, r2) := by first | (rw [hy159]; with_reducible exact H) | (have H2_ := (Option.bind_some _ _).symm.trans H; rw [hy159]; with_reducible exact H2_) | (have H2_ := (Option.bind_some _ _).symm.trans H; with_reducible exact H2_) | with_reducible exact H | (rw [hy159]; exact H) | exact H
                                have Ny159 := Aside0.mk hy159
                                clear hy159
                                by_cases c23 : y156.length + y159.length < 5864062014805
                                · rw [if_pos c23] at H
                                  have LMc23 := Aside0.mk c23
                                  clear c23
                                  obtain ⟨y164, hy164⟩ : ∃ y_ : List (S25), y_ = (y156 ++ y159) := ⟨_, rfl⟩
                                  replace H : (derrickref13_Due.l0 k2 l0 a1 x6_1 y164 (wrap64 (x8_1 + 1))) = some (r1, r2) := by first | (rw [hy164]; with_reducible exact H) | (have H2_ := (Option.bind_some _ _).symm.trans H; rw [hy164]; with_reducible exact H2_) | (have H2_ := (Option.bind_some _ _).symm.trans H; with_reducible exact H2_) | with_reducible exact H | (rw [hy164]; exact H) | exact H
                                  have Ny164 := Aside0.mk hy164
                                  clear hy164
                                  have H' := Aside0.mk H
                                  clear H
                                  try go_wp2
                                  have n0_ := Aside0.mk (Kd.V_drew HO_0.out)
                                  have n1_ := Aside0.mk (Kd.N_drew HO_6.out)
                                  have n2_ := Aside0.mk (Kd.R_drew HO_7.out)
                                  have n3_ := Aside0.mk (Kd.C_drew HR136_3.out)
                                  have n4_ := Aside0.mk (below_drew1 HB.out)
                                  clear HO_0
                                  clear HO_6
                                  clear HO_7
                                  clear HR136_3
                                  clear HB
                                  have HO_0 := n0_
                                  have HO_6 := n1_
                                  have HO_7 := n2_
                                  have HR136_3 := n3_
                                  have HB := n4_
                                  clear n0_ n1_ n2_ n3_ n4_
                                  obtain ⟨Ao25, co25, eo25⟩ := Kd.R_slice HO_7.out
                                  (first | subst eo25 | (injection eo25 with f1_ f2_ f3_; have f4_ := f1_.symm; have f5_ := f3_.symm; clear f1_ f2_ f3_; subst f4_; subst f5_))
                                  have p141 : 0 ≤ (x9_2 : Int) := of_decide_eq_true (by first | (with_reducible assumption) | assumption)
                                  have q141 : x9_2 < (x7_1.length : Int) := of_decide_eq_true (by first | (with_reducible assumption) | assumption)
                                  obtain ⟨ad141, e141, hx141_0, hx141_1, hx141_2⟩ := at_T25 (Kd.R_reads' HO_7.out).2.2 x9_2 p141 q141
                                  cases e141
                                  replace p141 := eq_true p141
                                  replace q141 := eq_true q141
                                  have p142 : 0 ≤ (x8_1 : Int) := of_decide_eq_true (by first | (with_reducible assumption) | assumption)
                                  have q142 : x8_1 < (l0.length : Int) := of_decide_eq_true (by first | (with_reducible assumption) | assumption)
                                  obtain ⟨ad142, A142_3, c142_3, e142, hx142_0, hx142_1, hx142_2, hx142_3, hx142_4, hx142_5, hx142_6, hl142_3, hi142_3⟩ := at_T35 (Kd.V_reads' HO_0.out).2.2 x8_1 p142 q142
                                  obtain rfl : ad136 = ad142 := (by injection e142)
                                  obtain ⟨ce142, hce142, hMe142, hcc142⟩ := Kd.V_get HO_0.out z35 x8_1 p142 (by first | exact q142 | exact of_decide_eq_true (by first | (with_reducible assumption) | assumption) | (have e_ := (Kd.V_reads' HO_0.out).1; omega))
                                  obtain ⟨ua142_3, uc142_3, rfl, ul142_3, ge142_3⟩ := k35_openF hMe142
                                  have hv142_3 := hcc142 3 _ rfl
                                  rw [add_field _ _ 3 (by omega)] at hv142_3
                                  replace hv142_3 := Option.some.inj (hv142_3.symm.trans hx142_3)
                                  injection hv142_3 with hva_ hvn_ hvc_
                                  rw [hva_] at ge142_3
                                  rw [hvc_] at ul142_3
                                  have HL142_3 := Aside0.mk (show Kd.V k70 70 _ w.heap.size _ _ ((rd_T35 l0 x8_1).f1) from Kd.V_mk ul142_3 ge142_3)
                                  clear hva_ hvn_ hvc_ ge142_3 ul142_3
                                  clear hcc142 hce142
                                  have HR142_3 := Aside0.mk hi142_3
                                  have HC142_3 := Aside0.mk hl142_3
                                  clear hi142_3 hl142_3
                                  replace p142 := eq_true p142
                                  replace q142 := eq_true q142
                                  refine start_ (n := 16) (S := fun w' => w'.cell? (ad141.add ((x9_2).toNat * 3)) = some (.string ((rd_T25 x7_1 x9_2).f0)) ∧ w'.cell? ⟨(ad141.add ((x9_2).toNat * 3)).block, (ad141.add ((x9_2).toNat * 3)).off + 1, none⟩ = some (.int .u16 ((rd_T25 x7_1 x9_2).f1)) ∧ w'.cell? ⟨(ad141.add ((x9_2).toNat * 3)).block, (ad141.add ((x9_2).toNat * 3)).off + 2, none⟩ = some (.int .u16 ((rd_T25 x7_1 x9_2).f2)) ∧ w'.cell? (ad136.add ((x8_1).toNat * 7)) = some (.string ((rd_T35 l0 x8_1).f0.f0)) ∧ w'.cell? ⟨(ad136.add ((x8_1).toNat * 7)).block, (ad136.add ((x8_1).toNat * 7)).off + 1, none⟩ = some (.int .u16 ((rd_T35 l0 x8_1).f0.f1)) ∧ w'.cell? ⟨(ad136.add ((x8_1).toNat * 7)).block, (ad136.add ((x8_1).toNat * 7)).off + 2, none⟩ = some (.int .u16 ((rd_T35 l0 x8_1).f0.f2)) ∧ w'.cell? ⟨(ad136.add ((x8_1).toNat * 7)).block, (ad136.add ((x8_1).toNat * 7)).off + 3, none⟩ = some (.slice A142_3 ((rd_T35 l0 x8_1).f1).length c142_3) ∧ w'.cell? ⟨(ad136.add ((x8_1).toNat * 7)).block, (ad136.add ((x8_1).toNat * 7)).off + 4, none⟩ = some (.int .i64 ((rd_T35 l0 x8_1).f2)) ∧ w'.cell? ⟨(ad136.add ((x8_1).toNat * 7)).block, (ad136.add ((x8_1).toNat * 7)).off + 5, none⟩ = some (.int .i64 ((rd_T35 l0 x8_1).f3)) ∧ w'.cell? ⟨(ad136.add ((x8_1).toNat * 7)).block, (ad136.add ((x8_1).toNat * 7)).off + 6, none⟩ = some (.int .u64 ((rd_T35 l0 x8_1).f4))) (ds := []) #[false, false, false, false, false, false, false, false, false, false, false, false, false, false, false, false] (by kernel_rfl) rfl rfl ⟨hx141_0, hx141_1, hx141_2, hx142_0, hx142_1, hx142_2, hx142_3, hx142_4, hx142_5, hx142_6⟩ (fun hHeld => ?_); refine with_tabW derrickref13_Due.tab9 derrickref13_Due.bits9 (fun HT_ HW_ => ?_)
                                  generalize wr.drew = w24 at HO_0 HO_6 HO_7 HR136_3 HB HL142_3 HR142_3 hx141_0 hx141_1 hx141_2 hx142_0 hx142_1 hx142_2 hx142_3 hx142_4 hx142_5 hx142_6 hHeld ⊢
                                  refine pure_ (i := 0) (N := some 31) (v := ?_) (a' := ?_) #[true, false, false, false, false, false, false, false, false, false, false, false, false, false, false, false] rfl rfl (any_of HT_.out (by kernel_rfl)) (fun _ _ _ h => h) (Or.inl ⟨by rfl, ?_⟩) ?_ ?_
                                  rotate_left
                                  · intro w'
                                    go_simp
                                    with_reducible rfl
                                  rotate_left
                                  · simp only [Act.put, List.setIfInBounds_toArray, List.set_cons_zero, List.set_cons_succ, i64_w, i32_w]
                                    rfl
                                  refine pure_ (i := 1) (N := some 32) (v := ?_) (a' := ?_) #[true, true, false, false, false, false, false, false, false, false, false, false, false, false, false, false] rfl rfl (any_of HT_.out (by kernel_rfl)) (fun _ _ _ h => h) (Or.inl ⟨by rfl, ?_⟩) ?_ ?_
                                  rotate_left
                                  · intro w'
                                    go_simp
                                    with_reducible rfl
                                  rotate_left
                                  · simp only [Act.put, List.setIfInBounds_toArray, List.set_cons_zero, List.set_cons_succ, i64_w, i32_w]
                                    rfl
                                  refine pure_ (i := 2) (N := some 33) (v := ?_) (a' := ?_) #[true, true, true, false, false, false, false, false, false, false, false, false, false, false, false, false] rfl rfl (any_of HT_.out (by kernel_rfl)) (fun _ _ _ h => h) (Or.inl ⟨by rfl, ?_⟩) ?_ ?_
                                  rotate_left
                                  · intro w'
                                    go_simp
                                    with_reducible rfl
                                  rotate_left
                                  · simp only [Act.put, List.setIfInBounds_toArray, List.set_cons_zero, List.set_cons_succ, i64_w, i32_w]
                                    rfl
                                  refine pure_ (i := 3) (N := some 34) (v := ?_) (a' := ?_) #[true, true, true, true, false, false, false, false, false, false, false, false, false, false, false, false] rfl rfl (any_of HT_.out (by kernel_rfl)) (fun _ _ _ h => h) (Or.inl ⟨by rfl, ?_⟩) ?_ ?_
                                  rotate_left
                                  · intro w'
                                    go_simp
                                    with_reducible rfl
                                  rotate_left
                                  · simp only [Act.put, List.setIfInBounds_toArray, List.set_cons_zero, List.set_cons_succ, i64_w, i32_w]
                                    rfl
                                  refine pure_ (i := 4) (N := some 35) (v := ?_) (a' := ?_) #[true, true, true, true, true, false, false, false, false, false, false, false, false, false, false, false] rfl rfl (any_of HT_.out (by kernel_rfl)) (fun _ _ _ h => h) (Or.inl ⟨by rfl, ?_⟩) ?_ ?_
                                  rotate_left
                                  · intro w'
                                    go_simp
                                    with_reducible rfl
                                  rotate_left
                                  · simp only [Act.put, List.setIfInBounds_toArray, List.set_cons_zero, List.set_cons_succ, i64_w, i32_w]
                                    rfl
                                  refine pure_ (i := 5) (N := some 36) (v := ?_) (a' := ?_) #[true, true, true, true, true, true, false, false, false, false, false, false, false, false, false, false] rfl rfl (any_of HT_.out (by kernel_rfl)) (fun _ _ _ h => h) (Or.inl ⟨by rfl, ?_⟩) ?_ ?_
                                  rotate_left
                                  · intro w'
                                    go_simp
                                    with_reducible rfl
                                  rotate_left
                                  · simp only [Act.put, List.setIfInBounds_toArray, List.set_cons_zero, List.set_cons_succ, i64_w, i32_w]
                                    rfl
                                  refine pure_ (i := 6) (N := some 37) (v := ?_) (a' := ?_) #[true, true, true, true, true, true, true, false, false, false, false, false, false, false, false, false] rfl rfl (any_of HT_.out (by kernel_rfl)) (fun _ _ _ h => h) (Or.inl ⟨by rfl, ?_⟩) ?_ ?_
                                  rotate_left
                                  · intro w'
                                    go_simp
                                    with_reducible rfl
                                  rotate_left
                                  · simp only [Act.put, List.setIfInBounds_toArray, List.set_cons_zero, List.set_cons_succ, i64_w, i32_w]
                                    rfl
                                  refine pure_ (i := 7) (N := some 38) (v := ?_) (a' := ?_) #[true, true, true, true, true, true, true, true, false, false, false, false, false, false, false, false] rfl rfl (any_of HT_.out (by kernel_rfl)) (fun _ _ _ h => h) (Or.inl ⟨by rfl, ?_⟩) ?_ ?_
                                  rotate_left
                                  · intro w'
                                    go_simp
                                    with_reducible rfl
                                  rotate_left
                                  · simp only [Act.put, List.setIfInBounds_toArray, List.set_cons_zero, List.set_cons_succ, i64_w, i32_w]
                                    rfl
                                  refine pure_ (i := 9) (N := some 40) (v := ?_) (a' := ?_) #[true, true, true, true, true, true, true, true, false, true, false, false, false, false, false, false] rfl rfl (any_of HT_.out (by kernel_rfl)) (fun _ _ _ h => h) (Or.inl ⟨by rfl, ?_⟩) ?_ ?_
                                  rotate_left
                                  · intro w'
                                    go_simp
                                    with_reducible rfl
                                  rotate_left
                                  · simp only [Act.put, List.setIfInBounds_toArray, List.set_cons_zero, List.set_cons_succ, i64_w, i32_w]
                                    rfl
                                  refine pure_ (i := 10) (N := some 41) (v := ?_) (a' := ?_) #[true, true, true, true, true, true, true, true, false, true, true, false, false, false, false, false] rfl rfl (any_of HT_.out (by kernel_rfl)) (fun _ _ _ h => h) (Or.inl ⟨by rfl, ?_⟩) ?_ ?_
                                  rotate_left
                                  · intro w'
                                    go_simp
                                    with_reducible rfl
                                  rotate_left
                                  · simp only [Act.put, List.setIfInBounds_toArray, List.set_cons_zero, List.set_cons_succ, i64_w, i32_w]
                                    rfl
                                  refine pure_ (i := 11) (N := some 42) (v := ?_) (a' := ?_) #[true, true, true, true, true, true, true, true, false, true, true, true, false, false, false, false] rfl rfl (any_of HT_.out (by kernel_rfl)) (fun _ _ _ h => h) (Or.inl ⟨by rfl, ?_⟩) ?_ ?_
                                  rotate_left
                                  · intro w'
                                    go_simp
                                    with_reducible rfl
                                  rotate_left
                                  · simp only [Act.put, List.setIfInBounds_toArray, List.set_cons_zero, List.set_cons_succ, i64_w, i32_w]
                                    rfl
                                  refine pure_ (i := 12) (N := some 43) (v := ?_) (a' := ?_) #[true, true, true, true, true, true, true, true, false, true, true, true, true, false, false, false] rfl rfl (any_of HT_.out (by kernel_rfl)) (fun _ _ _ h => h) (Or.inl ⟨by rfl, ?_⟩) ?_ ?_
                                  rotate_left
                                  · intro w'
                                    go_simp
                                    with_reducible rfl
                                  rotate_left
                                  · simp only [Act.put, List.setIfInBounds_toArray, List.set_cons_zero, List.set_cons_succ, i64_w, i32_w]
                                    rfl
                                  refine take_ (i := 8) (N := some 39) (v := ?_) (a' := ?_) #[true, true, true, true, true, true, true, true, true, true, true, true, true, false, false, false] rfl rfl (take_ofW HT_.out HW_.out (by kernel_rfl)) (fun _ _ _ h => h) (Or.inl ⟨by rfl, ?_⟩) hHeld ?_ ?_
                                  rotate_left
                                  · rintro w' ⟨s0, s1, s2, s3, s4, s5, s6, s7, s8, s9⟩
                                    go_simp
                                    with_reducible rfl
                                  rotate_left
                                  · simp only [Act.put, List.setIfInBounds_toArray, List.set_cons_zero, List.set_cons_succ, i64_w, i32_w]
                                    rfl
                                  refine take_ (i := 13) (N := some 44) (v := ?_) (a' := ?_) #[true, true, true, true, true, true, true, true, true, true, true, true, true, true, false, false] rfl rfl (take_ofW HT_.out HW_.out (by kernel_rfl)) (fun _ _ _ h => h) (Or.inl ⟨by rfl, ?_⟩) hHeld ?_ ?_
                                  rotate_left
                                  · rintro w' ⟨s0, s1, s2, s3, s4, s5, s6, s7, s8, s9⟩
                                    go_simp
                                    with_reducible rfl
                                  rotate_left
                                  · simp only [Act.put, List.setIfInBounds_toArray, List.set_cons_zero, List.set_cons_succ, i64_w, i32_w]
                                    rfl
                                  refine one_ (i := 14) (N := some 45) #[true, true, true, true, true, true, true, true, true, true, true, true, true, true, true, false] rfl rfl (one_of HT_.out (by kernel_rfl)) (by decide) (fun K hK => ?_)
                                  refine goes_ Try.func22 (by kernel_rfl) rfl #[.agg #[.string ((rd_T25 x7_1 x9_2).f0), .int .u16 ((rd_T25 x7_1 x9_2).f1), .int .u16 ((rd_T25 x7_1 x9_2).f2)], .agg #[.string ((rd_T35 l0 x8_1).f0.f0), .int .u16 ((rd_T35 l0 x8_1).f0.f1), .int .u16 ((rd_T35 l0 x8_1).f0.f2)]] (by rfl) rfl rfl (by (try simp only [List.map_toArray, List.map_cons, List.map_nil]); first | done | rfl | (simp only [List.length_drop, List.length_take]; rfl)) ?_
                                  with_reducible refine (derrickref13_Less.calls ((rd_T25 x7_1 x9_2).f0) ((rd_T25 x7_1 x9_2).f1) ((rd_T25 x7_1 x9_2).f2) ((rd_T35 l0 x8_1).f0.f0) ((rd_T35 l0 x8_1).f0.f1) ((rd_T35 l0 x8_1).f0.f2) false _ A12.out).mono ?_
                                  rintro e w26 ⟨rfl, hb⟩
                                  have HS0_ := (hb.cell (World.block_lt_of_cell? _ _ (hHeld.1))).trans (hHeld.1)
                                  have HS1_ := (hb.cell (World.block_lt_of_cell? _ _ (hHeld.2.1))).trans (hHeld.2.1)
                                  have HS2_ := (hb.cell (World.block_lt_of_cell? _ _ (hHeld.2.2.1))).trans (hHeld.2.2.1)
                                  have HS3_ := (hb.cell (World.block_lt_of_cell? _ _ (hHeld.2.2.2.1))).trans (hHeld.2.2.2.1)
                                  have HS4_ := (hb.cell (World.block_lt_of_cell? _ _ (hHeld.2.2.2.2.1))).trans (hHeld.2.2.2.2.1)
                                  have HS5_ := (hb.cell (World.block_lt_of_cell? _ _ (hHeld.2.2.2.2.2.1))).trans (hHeld.2.2.2.2.2.1)
                                  have HS6_ := (hb.cell (World.block_lt_of_cell? _ _ (hHeld.2.2.2.2.2.2.1))).trans (hHeld.2.2.2.2.2.2.1)
                                  have HS7_ := (hb.cell (World.block_lt_of_cell? _ _ (hHeld.2.2.2.2.2.2.2.1))).trans (hHeld.2.2.2.2.2.2.2.1)
                                  have HS8_ := (hb.cell (World.block_lt_of_cell? _ _ (hHeld.2.2.2.2.2.2.2.2.1))).trans (hHeld.2.2.2.2.2.2.2.2.1)
                                  have HS9_ := (hb.cell (World.block_lt_of_cell? _ _ (hHeld.2.2.2.2.2.2.2.2.2))).trans (hHeld.2.2.2.2.2.2.2.2.2)
                                  refine ⟨_, rfl, ?_⟩
                                  have n0_ := Aside0.mk (Kd.V_below (by (with_reducible repeat (first | apply Kd.V_alloc | apply Kd.V_drewN | apply Kd.V_drew)); exact HO_0.out) hb)
                                  have n1_ := Aside0.mk (Kd.N_below (by (with_reducible repeat (first | apply Kd.N_alloc | apply Kd.N_drewN | apply Kd.N_drew)); exact HO_6.out) hb)
                                  have n2_ := Aside0.mk (Kd.R_below (by (with_reducible repeat (first | apply Kd.R_alloc | apply Kd.R_drewN | apply Kd.R_drew)); exact HO_7.out) hb)
                                  have n3_ := Aside0.mk (Kd.V_below (by (with_reducible repeat (first | apply Kd.V_alloc | apply Kd.V_drewN | apply Kd.V_drew)); exact HL142_3.out) hb)
                                  have n4_ := Aside0.mk (Kd.C_below (by repeat (first | (with_reducible exact HR136_3.out) | (with_reducible refine Kd.C_alloc ?_ _) | (with_reducible refine Kd.C_drewN ?_ _) | (with_reducible refine Kd.C_drew ?_) | exact HR136_3.out)) hb)
                                  have n5_ := Aside0.mk (Kd.C_below (by repeat (first | (with_reducible exact HR142_3.out) | (with_reducible refine Kd.C_alloc ?_ _) | (with_reducible refine Kd.C_drewN ?_ _) | (with_reducible refine Kd.C_drew ?_) | exact HR142_3.out)) hb)
                                  have n6_ := Aside0.mk (below_step (by repeat (first | (with_reducible first | exact HB.out | apply below_alloc | apply pw_below_drewN | apply below_drew1) | exact HB.out)) hb)
                                  clear HO_0
                                  clear HO_6
                                  clear HO_7
                                  clear HL142_3
                                  clear HR136_3
                                  clear HR142_3
                                  clear HB
                                  have HO_0 := n0_
                                  have HO_6 := n1_
                                  have HO_7 := n2_
                                  have HL142_3 := n3_
                                  have HR136_3 := n4_
                                  have HR142_3 := n5_
                                  have HB := n6_
                                  clear n0_ n1_ n2_ n3_ n4_ n5_ n6_
                                  (try clear hb)
                                  (try clear hb2)
                                  (try clear hk)
                                  (try clear hi)
                                  refine hK.out _ _ ⟨HS0_, HS1_, HS2_, HS3_, HS4_, HS5_, HS6_, HS7_, HS8_, HS9_⟩ (fun hHeld => ?_)
                                  clear hK K
                                  refine norm_ (a' := ?_) ?_ ?_
                                  rotate_left
                                  · show Act.put _ (some 45) _ = _
                                    simp only [Act.put, List.setIfInBounds_toArray, List.set_cons_zero, List.set_cons_succ, i64_w, i32_w]
                                    rfl
                                  refine pure_ (i := 15) (N := some 46) (v := ?_) (a' := ?_) #[true, true, true, true, true, true, true, true, true, true, true, true, true, true, true, true] rfl rfl (any_of HT_.out (by kernel_rfl)) (fun _ _ _ h => h) (Or.inl ⟨by rfl, ?_⟩) ?_ ?_
                                  rotate_left
                                  · intro w'
                                    go_simp
                                    with_reducible rfl
                                  rotate_left
                                  · simp only [Act.put, List.setIfInBounds_toArray, List.set_cons_zero, List.set_cons_succ, i64_w, i32_w]
                                    rfl
                                  refine done_ (done_of HT_.out (by kernel_rfl)) ?_
                                  try go_wp2_with (first | ((with_reducible refine gate_dst (N := 49) rfl ?_); refine Kd.R_lit k25 _ 25 ?hg (N := 49) ?hd (xs := ([] : List (S25))) (inner := []) (ok := fun _ => True) (okp := fun _ => True) ?hr ?hp (fun _ hk => hk) trivial (Below.refl _ _) (Nat.le_refl _) (by simp) ?_; (case hd => rfl); (case hg => rfl); (case hr => first | (go_simp; done) | (go_simp; rfl)); (case hp => exact (Reps.none _ _)); intro v145 w27 ho28 hb hg_ hnew_; clear hg_ hnew_; (first | rw [← Ny144.out] at ho28 | (simp only [Int.reduceToNat] at ho28; rw [← Ny144.out] at ho28)); have n0_ := Aside0.mk (Kd.V_elder' (by (with_reducible repeat (first | apply Kd.V_alloc | apply Kd.V_drewN | apply Kd.V_drew)); exact HO_0.out) (Kd.R_base ho28) hb); have n1_ := Aside0.mk (Kd.N_elder' (by (with_reducible repeat (first | apply Kd.N_alloc | apply Kd.N_drewN | apply Kd.N_drew)); exact HO_6.out) (Kd.R_base ho28) hb); have n2_ := Aside0.mk (Kd.R_elder' (by (with_reducible repeat (first | apply Kd.R_alloc | apply Kd.R_drewN | apply Kd.R_drew)); exact HO_7.out) (Kd.R_base ho28) hb); have n3_ := Aside0.mk (Kd.V_elder' (by (with_reducible repeat (first | apply Kd.V_alloc | apply Kd.V_drewN | apply Kd.V_drew)); exact HL142_3.out) (Kd.R_base ho28) hb); have n4_ := Aside0.mk (Kd.R_lower (Kd.R_new' (Kd.R_newM (M := fun k_ => (w.heap.size ≤ k_)) ho28 (below_size (by repeat (first | (with_reducible first | exact HB.out | apply below_alloc | apply pw_below_drewN | apply below_drew1) | exact HB.out))) (fun k_ h_ => h_)) (Kd.R_lt (by (with_reducible repeat (first | apply Kd.R_alloc | apply Kd.R_drewN | apply Kd.R_drew)); exact HO_7.out))) (below_size (by repeat (first | (with_reducible first | exact HB.out | apply below_alloc | apply pw_below_drewN | apply below_drew1) | exact HB.out)))); have n5_ := Aside0.mk (Kd.C_below (by repeat (first | (with_reducible exact HR136_3.out) | (with_reducible refine Kd.C_alloc ?_ _) | (with_reducible refine Kd.C_drewN ?_ _) | (with_reducible refine Kd.C_drew ?_) | exact HR136_3.out)) hb); have n6_ := Aside0.mk (Kd.C_below (by repeat (first | (with_reducible exact HR142_3.out) | (with_reducible refine Kd.C_alloc ?_ _) | (with_reducible refine Kd.C_drewN ?_ _) | (with_reducible refine Kd.C_drew ?_) | exact HR142_3.out)) hb); have n7_ := Aside0.mk (below_step (by repeat (first | (with_reducible first | exact HB.out | apply below_alloc | apply pw_below_drewN | apply below_drew1) | exact HB.out)) hb); clear HO_0; clear HO_6; clear HO_7; clear HL142_3; clear HR136_3; clear HR142_3; clear HB; have HO_0 := n0_; have HO_6 := n1_; have HO_7 := n2_; have HL142_3 := n3_; have HO146 := n4_; have HR136_3 := n5_; have HR142_3 := n6_; have HB := n7_; clear n0_ n1_ n2_ n3_ n4_ n5_ n6_ n7_; clear hb ho28; have q29 : (x9_2 : Int) ≤ ((x7_1.length : Int) : Int) := of_decide_eq_true (by first | (with_reducible assumption) | assumption); obtain ⟨i029, hi029, _, hsz29, _⟩ := info_parts info25; have hroom29 : x7_1.length ≤ co25 := (Kd.R_reads' HO_7.out).2.1; have hC29 : Kd.F k25 _ _ (some ad141) x7_1.length x7_1 := (Kd.V_at (base := w.heap.size) (Kd.V_mono (ok' := (fun k_ => (((P0_ k_ ∨ w.heap.size ≤ k_) ∧ some k_ ≠ (v145 : Value).ownBlock) ∧ some k_ ≠ (u6 : Value).ownBlock))) (Kd.R_V (Kd.R_apart' (HO_7.out) (Kd.N_typed HO_6.out) (by decide))) (fun k_ hk => ⟨⟨(.inr (hk.1.1)), hk.1.2⟩, hk.2⟩))).2.2; have hcut29 := cut_to (P := Try.prog) 51 25 .i64 Try.underlying51 hi029 (some ad141) x7_1.length co25 x9_2 (of_decide_eq_true (by first | (with_reducible assumption) | assumption)) q29 hroom29; have hr29 := Kd.F_take (m := (x9_2 : Int).toNat) hC29 (by omega); have hy29 : y147.length = (x9_2 : Int).toNat := (by rw [Ny147.out, List.length_take]; omega); rw [← Ny147.out] at hr29; rw [← hy29] at hcut29; have HO151 := Aside0.mk (show Kd.V k25 25 _ w.heap.size _ (.slice (some ad141) y147.length co25) y147 from Kd.V_mk (by omega) hr29); have HC151 := Aside0.mk (show y147.length ≤ co25 from by omega); clear hr29 hC29 hroom29 hi029 hsz29; have KY29 := Aside0.mk hy29; clear hy29; replace q29 := eq_true q29) | ((with_reducible refine gate_builtin (b := .append) (xs := #[.tmp 49, .tmp 52]) rfl ?_); at_builtin; refine Kd.R_append_rows k25 (w0 := w) w.heap.size rfl (.tmp 49) (.tmp 52) 51 25 (.agg #[(.string ⟨#[]⟩), (.int .u16 0), (.int .u16 0)]) 24 rfl Try.underlying51 info25 rfl (by decide) (by omega) v145 y144 y147 _ _ _ (fun k_ => (w.heap.size ≤ k_) ∧ some k_ ≠ (.slice (some ad141) x7_1.length co25 : Value).ownBlock) (fun _ => False) rfl rfl ?aO ?aR (fun _ _ h => h) (fun _ h => h.elim) ?aF ?aB ?aS ?aL ?_; (case aR => repeat (first | exact (Kd.V_reads' HO151.out).2.2 | (with_reducible refine Kd.C_alloc ?_ _) | (with_reducible refine Kd.C_drewN ?_ _) | (with_reducible refine Kd.C_drew ?_))); (case aB => exact (by repeat (first | (with_reducible first | exact HB.out | apply below_alloc | apply pw_below_drewN | apply below_drew1) | exact HB.out))); (case aF => exact (fun k_ hk => ⟨(Nat.le_trans (below_size (by repeat (first | (with_reducible first | exact HB.out | apply below_alloc | apply pw_below_drewN | apply below_drew1) | exact HB.out))) hk), Kd.fresh' (Kd.R_lt (by (with_reducible repeat (first | apply Kd.R_alloc | apply Kd.R_drewN | apply Kd.R_drew)); exact HO_7.out)) k_ hk⟩)); (case aO => exact (by (with_reducible repeat (first | apply Kd.R_alloc | apply Kd.R_drewN | apply Kd.R_drew)); exact Kd.R_mono HO146.out (fun _ hk => ⟨hk.1.1, hk.2⟩))); (case aS => exact (below_size (by repeat (first | (with_reducible first | exact HB.out | apply below_alloc | apply pw_below_drewN | apply below_drew1) | exact HB.out)))); (case aL => have := LMc19.out; omega); intro v153 w30 ho hb hg hat; rw [← Ny152.out] at ho; have n0_ := Aside0.mk (Kd.V_afterv (ok := (fun k_ => (P0_ k_ ∨ w.heap.size ≤ k_) ∧ some k_ ≠ (u6 : Value).ownBlock ∧ some k_ ≠ (.slice (some ad141) x7_1.length co25 : Value).ownBlock)) (by (with_reducible repeat (first | apply Kd.V_alloc | apply Kd.V_drewN | apply Kd.V_drew)); exact HO_0.out) hg hat); have n1_ := Aside0.mk (Kd.N_afterv (ok := (fun k_ => (P0_ k_ ∨ w.heap.size ≤ k_) ∧ some k_ ≠ (.slice (some ad141) x7_1.length co25 : Value).ownBlock)) (by (with_reducible repeat (first | apply Kd.N_alloc | apply Kd.N_drewN | apply Kd.N_drew)); exact HO_6.out) hg hat); have n2_ := Aside0.mk (Kd.R_after (ok := (fun k_ => (w.heap.size ≤ k_))) (by (with_reducible repeat (first | apply Kd.R_alloc | apply Kd.R_drewN | apply Kd.R_drew)); exact HO_7.out) hg hat); have n3_ := Aside0.mk (Kd.V_afterv (ok := (fun k_ => (P0_ k_ ∨ w.heap.size ≤ k_) ∧ some k_ ≠ (u6 : Value).ownBlock ∧ some k_ ≠ (.slice (some ad141) x7_1.length co25 : Value).ownBlock)) (by (with_reducible repeat (first | apply Kd.V_alloc | apply Kd.V_drewN | apply Kd.V_drew)); exact HL142_3.out) hg hat); have n4_ := Aside0.mk (Kd.V_afterv (ok := (fun k_ => (P0_ k_ ∨ w.heap.size ≤ k_) ∧ some k_ ≠ (u6 : Value).ownBlock)) (by (with_reducible repeat (first | apply Kd.V_alloc | apply Kd.V_drewN | apply Kd.V_drew)); exact Kd.V_mono HO151.out (fun _ hk => ⟨⟨hk.1.1, hk.2⟩, hk.1.2⟩)) hg hat); have n5_ := Aside0.mk (hb); have n6_ := Aside0.mk (ho); clear HO_0; clear HO_6; clear HO_7; clear HL142_3; clear HO151; clear HB; clear HO146; have HO_0 := n0_; have HO_6 := n1_; have HO_7 := n2_; have HL142_3 := n3_; have HO151 := n4_; have HB := n5_; have HO154 := n6_; clear n0_ n1_ n2_ n3_ n4_ n5_ n6_; clear ho hb hg hat; have p155 : 0 ≤ (x8_1 : Int) := of_decide_eq_true (by first | (with_reducible assumption) | assumption); have q155 : x8_1 < (l0.length : Int) := of_decide_eq_true (by first | (with_reducible assumption) | assumption); obtain ⟨ad155, A155_3, c155_3, e155, hx155_0, hx155_1, hx155_2, hx155_3, hx155_4, hx155_5, hx155_6, hl155_3, hi155_3⟩ := at_T35 (Kd.V_reads' HO_0.out).2.2 x8_1 p155 q155; obtain rfl : ad136 = ad155 := (by injection e155); obtain ⟨ce155, hce155, hMe155, hcc155⟩ := Kd.V_get HO_0.out z35 x8_1 p155 (by first | exact q155 | exact of_decide_eq_true (by first | (with_reducible assumption) | assumption) | (have e_ := (Kd.V_reads' HO_0.out).1; omega)); obtain ⟨ua155_3, uc155_3, rfl, ul155_3, ge155_3⟩ := k35_openF hMe155; have hv155_3 := hcc155 3 _ rfl; rw [add_field _ _ 3 (by omega)] at hv155_3; replace hv155_3 := Option.some.inj (hv155_3.symm.trans hx155_3); injection hv155_3 with hva_ hvn_ hvc_; rw [hva_] at ge155_3; rw [hvc_] at ul155_3; have HL155_3 := Aside0.mk (show Kd.V k70 70 _ w.heap.size _ _ ((rd_T35 l0 x8_1).f1) from Kd.V_mk ul155_3 ge155_3); clear hva_ hvn_ hvc_ ge155_3 ul155_3; clear hcc155 hce155; have HR155_3 := Aside0.mk hi155_3; have HC155_3 := Aside0.mk hl155_3; clear hi155_3 hl155_3; replace p155 := eq_true p155; replace q155 := eq_true q155) | ((with_reducible refine gate_builtin (b := .append) (xs := #[.tmp 54, .tmp 60]) rfl ?_); at_builtin; refine Kd.R_append k25 (w0 := w) w.heap.size rfl (.tmp 54) (.tmp 60) 51 25 (.agg #[(.string ⟨#[]⟩), (.int .u16 0), (.int .u16 0)]) 24 rfl Try.underlying51 info25 rfl (by decide) (by omega) v153 y152 (⟨(rd_T35 l0 x8_1).f0.f0, (rd_T35 l0 x8_1).f0.f1, (rd_T35 l0 x8_1).f0.f2⟩ : S25) [.string ((rd_T35 l0 x8_1).f0.f0), .int .u16 ((rd_T35 l0 x8_1).f0.f1), .int .u16 ((rd_T35 l0 x8_1).f0.f2)] (fun k_ => (w.heap.size ≤ k_) ∧ some k_ ≠ (.slice (some ad141) x7_1.length co25 : Value).ownBlock) (fun _ => False) rfl rfl ?aP (fun _ hk => hk.elim) ?aF ?aO ?aB ?aS ?aL ?_; (case aP => exact k25_mkM _ _ _ (⟨(rd_T35 l0 x8_1).f0.f0, (rd_T35 l0 x8_1).f0.f1, (rd_T35 l0 x8_1).f0.f2⟩ : S25)); (case aB => exact (by repeat (first | (with_reducible first | exact HB.out | apply below_alloc | apply pw_below_drewN | apply below_drew1) | exact HB.out))); (case aF => exact (fun k_ hk => ⟨(Nat.le_trans (below_size (by repeat (first | (with_reducible first | exact HB.out | apply below_alloc | apply pw_below_drewN | apply below_drew1) | exact HB.out))) hk), Kd.fresh' (Kd.R_lt (by (with_reducible repeat (first | apply Kd.R_alloc | apply Kd.R_drewN | apply Kd.R_drew)); exact HO_7.out)) k_ hk⟩)); (case aO => exact (by (with_reducible repeat (first | apply Kd.R_alloc | apply Kd.R_drewN | apply Kd.R_drew)); exact HO154.out)); (case aS => exact (below_size (by repeat (first | (with_reducible first | exact HB.out | apply below_alloc | apply pw_below_drewN | apply below_drew1) | exact HB.out)))); (case aL => have := LMc20.out; omega); intro v157 w31 ho hb hg hat; rw [← Ny156.out] at ho; have n0_ := Aside0.mk (Kd.V_afterv (ok := (fun k_ => (P0_ k_ ∨ w.heap.size ≤ k_) ∧ some k_ ≠ (u6 : Value).ownBlock ∧ some k_ ≠ (.slice (some ad141) x7_1.length co25 : Value).ownBlock)) (by (with_reducible repeat (first | apply Kd.V_alloc | apply Kd.V_drewN | apply Kd.V_drew)); exact HO_0.out) hg hat); have n1_ := Aside0.mk (Kd.N_afterv (ok := (fun k_ => (P0_ k_ ∨ w.heap.size ≤ k_) ∧ some k_ ≠ (.slice (some ad141) x7_1.length co25 : Value).ownBlock)) (by (with_reducible repeat (first | apply Kd.N_alloc | apply Kd.N_drewN | apply Kd.N_drew)); exact HO_6.out) hg hat); have n2_ := Aside0.mk (Kd.R_after (ok := (fun k_ => (w.heap.size ≤ k_))) (by (with_reducible repeat (first | apply Kd.R_alloc | apply Kd.R_drewN | apply Kd.R_drew)); exact HO_7.out) hg hat); have n3_ := Aside0.mk (Kd.V_afterv (ok := (fun k_ => (P0_ k_ ∨ w.heap.size ≤ k_) ∧ some k_ ≠ (u6 : Value).ownBlock ∧ some k_ ≠ (.slice (some ad141) x7_1.length co25 : Value).ownBlock)) (by (with_reducible repeat (first | apply Kd.V_alloc | apply Kd.V_drewN | apply Kd.V_drew)); exact HL142_3.out) hg hat); have n4_ := Aside0.mk (Kd.V_afterv (ok := (fun k_ => (P0_ k_ ∨ w.heap.size ≤ k_) ∧ some k_ ≠ (u6 : Value).ownBlock)) (by (with_reducible repeat (first | apply Kd.V_alloc | apply Kd.V_drewN | apply Kd.V_drew)); exact HO151.out) hg hat); have n5_ := Aside0.mk (Kd.V_afterv (ok := (fun k_ => (P0_ k_ ∨ w.heap.size ≤ k_) ∧ some k_ ≠ (u6 : Value).ownBlock ∧ some k_ ≠ (.slice (some ad141) x7_1.length co25 : Value).ownBlock)) (by (with_reducible repeat (first | apply Kd.V_alloc | apply Kd.V_drewN | apply Kd.V_drew)); exact HL155_3.out) hg hat); have n6_ := Aside0.mk (hb); have n7_ := Aside0.mk (ho); clear HO_0; clear HO_6; clear HO_7; clear HL142_3; clear HO151; clear HL155_3; clear HB; clear HO154; have HO_0 := n0_; have HO_6 := n1_; have HO_7 := n2_; have HL142_3 := n3_; have HO151 := n4_; have HL155_3 := n5_; have HB := n6_; have HO158 := n7_; clear n0_ n1_ n2_ n3_ n4_ n5_ n6_ n7_; clear ho hb hg hat; have q32 : (x9_2 : Int) ≤ ((x7_1.length : Int) : Int) := of_decide_eq_true (by first | (with_reducible assumption) | assumption); obtain ⟨i032, hi032, _, hsz32, _⟩ := info_parts info25; have hroom32 : x7_1.length ≤ co25 := (Kd.R_reads' HO_7.out).2.1; have hC32 : Kd.F k25 _ _ (some ad141) x7_1.length x7_1 := (Kd.V_at (base := w.heap.size) (Kd.V_mono (ok' := (fun k_ => (((P0_ k_ ∨ w.heap.size ≤ k_) ∧ some k_ ≠ (v157 : Value).ownBlock) ∧ some k_ ≠ (u6 : Value).ownBlock))) (Kd.R_V (Kd.R_apart' (HO_7.out) (Kd.N_typed HO_6.out) (by decide))) (fun k_ hk => ⟨⟨(.inr (hk.1.1)), hk.1.2⟩, hk.2⟩))).2.2; have q032 : (0 : Int) ≤ (x9_2 : Int) := of_decide_eq_true (by first | (with_reducible assumption) | assumption); have hcut32 := cut_from (P := Try.prog) 51 25 .i64 Try.underlying51 hi032 3 hsz32 (some ad141) x7_1.length co25 x9_2 q032 q32; have hr32 := Kd.F_cut (m := (x9_2 : Int).toNat) (c := co25) hC32 (by omega) hroom32; obtain ⟨A32, hA32⟩ : ∃ A1, A1 = (if co25 = (x9_2 : Int).toNat then (some ad141) else ((some ad141) : Option Addr).map (·.add ((x9_2 : Int).toNat * 3))) := ⟨_, rfl⟩; obtain ⟨c32, hc32⟩ : ∃ c1, c1 = co25 - (x9_2 : Int).toNat := ⟨_, rfl⟩; have hy32 : y159.length = x7_1.length - (x9_2 : Int).toNat := (by rw [Ny159.out, List.length_drop] <;> omega); rw [show (x7_1).drop (x9_2 : Int).toNat = y159 from Ny159.out.symm] at hr32; replace hr32 : Kd.F k25 _ _ A32 y159.length y159 := (by rw [hA32]; exact hr32); rw [← hy32, ← hA32, ← hc32] at hcut32; have HO163 := Aside0.mk (show Kd.V k25 25 _ w.heap.size _ (.slice A32 y159.length c32) y159 from Kd.V_mk (by rw [hy32, hc32]; exact Nat.sub_le_sub_right hroom32 _) hr32); have HC163 := Aside0.mk (show y159.length ≤ c32 from by rw [hy32, hc32]; exact Nat.sub_le_sub_right hroom32 _); clear hr32 hC32 hroom32 hi032 hsz32 hc32; have KY32 := Aside0.mk hy32; have KA32 := Aside0.mk hA32; clear hy32 hA32; replace q32 := eq_true q32) | ((with_reducible refine gate_builtin (b := .append) (xs := #[.tmp 62, .tmp 65]) rfl ?_); at_builtin; refine Kd.R_append_rows k25 (w0 := w) w.heap.size rfl (.tmp 62) (.tmp 65) 51 25 (.agg #[(.string ⟨#[]⟩), (.int .u16 0), (.int .u16 0)]) 24 rfl Try.underlying51 info25 rfl (by decide) (by omega) v157 y156 y159 _ _ _ (fun k_ => (w.heap.size ≤ k_) ∧ some k_ ≠ (.slice (some ad141) x7_1.length co25 : Value).ownBlock) (fun _ => False) rfl rfl ?aO ?aR (fun _ _ h => h) (fun _ h => h.elim) ?aF ?aB ?aS ?aL ?_; (case aR => repeat (first | exact (Kd.V_reads' HO163.out).2.2 | (with_reducible refine Kd.C_alloc ?_ _) | (with_reducible refine Kd.C_drewN ?_ _) | (with_reducible refine Kd.C_drew ?_))); (case aB => exact (by repeat (first | (with_reducible first | exact HB.out | apply below_alloc | apply pw_below_drewN | apply below_drew1) | exact HB.out))); (case aF => exact (fun k_ hk => ⟨(Nat.le_trans (below_size (by repeat (first | (with_reducible first | exact HB.out | apply below_alloc | apply pw_below_drewN | apply below_drew1) | exact HB.out))) hk), Kd.fresh' (Kd.R_lt (by (with_reducible repeat (first | apply Kd.R_alloc | apply Kd.R_drewN | apply Kd.R_drew)); exact HO_7.out)) k_ hk⟩)); (case aO => exact (by (with_reducible repeat (first | apply Kd.R_alloc | apply Kd.R_drewN | apply Kd.R_drew)); exact HO158.out)); (case aS => exact (below_size (by repeat (first | (with_reducible first | exact HB.out | apply below_alloc | apply pw_below_drewN | apply below_drew1) | exact HB.out)))); (case aL => have := LMc23.out; omega); intro v165 w33 ho hb hg hat; rw [← Ny164.out] at ho; have n0_ := Aside0.mk (Kd.V_afterv (ok := (fun k_ => (P0_ k_ ∨ w.heap.size ≤ k_) ∧ some k_ ≠ (u6 : Value).ownBlock ∧ some k_ ≠ (.slice (some ad141) x7_1.length co25 : Value).ownBlock)) (by (with_reducible repeat (first | apply Kd.V_alloc | apply Kd.V_drewN | apply Kd.V_drew)); exact HO_0.out) hg hat); have n1_ := Aside0.mk (Kd.N_afterv (ok := (fun k_ => (P0_ k_ ∨ w.heap.size ≤ k_) ∧ some k_ ≠ (.slice (some ad141) x7_1.length co25 : Value).ownBlock)) (by (with_reducible repeat (first | apply Kd.N_alloc | apply Kd.N_drewN | apply Kd.N_drew)); exact HO_6.out) hg hat); have n2_ := Aside0.mk (Kd.R_after (ok := (fun k_ => (w.heap.size ≤ k_))) (by (with_reducible repeat (first | apply Kd.R_alloc | apply Kd.R_drewN | apply Kd.R_drew)); exact HO_7.out) hg hat); have n3_ := Aside0.mk (Kd.V_afterv (ok := (fun k_ => (P0_ k_ ∨ w.heap.size ≤ k_) ∧ some k_ ≠ (u6 : Value).ownBlock ∧ some k_ ≠ (.slice (some ad141) x7_1.length co25 : Value).ownBlock)) (by (with_reducible repeat (first | apply Kd.V_alloc | apply Kd.V_drewN | apply Kd.V_drew)); exact HL142_3.out) hg hat); have n4_ := Aside0.mk (Kd.V_afterv (ok := (fun k_ => (P0_ k_ ∨ w.heap.size ≤ k_) ∧ some k_ ≠ (u6 : Value).ownBlock)) (by (with_reducible repeat (first | apply Kd.V_alloc | apply Kd.V_drewN | apply Kd.V_drew)); exact HO151.out) hg hat); have n5_ := Aside0.mk (Kd.V_afterv (ok := (fun k_ => (P0_ k_ ∨ w.heap.size ≤ k_) ∧ some k_ ≠ (u6 : Value).ownBlock ∧ some k_ ≠ (.slice (some ad141) x7_1.length co25 : Value).ownBlock)) (by (with_reducible repeat (first | apply Kd.V_alloc | apply Kd.V_drewN | apply Kd.V_drew)); exact HL155_3.out) hg hat); have n6_ := Aside0.mk (Kd.V_afterv (ok := (fun k_ => (P0_ k_ ∨ w.heap.size ≤ k_) ∧ some k_ ≠ (u6 : Value).ownBlock)) (by (with_reducible repeat (first | apply Kd.V_alloc | apply Kd.V_drewN | apply Kd.V_drew)); exact Kd.V_mono HO163.out (fun _ hk => ⟨⟨hk.1.1, hk.2⟩, hk.1.2⟩)) hg hat); have n7_ := Aside0.mk (hb); have n8_ := Aside0.mk (ho); clear HO_0; clear HO_6; clear HO_7; clear HL142_3; clear HO151; clear HL155_3; clear HO163; clear HB; clear HO158; have HO_0 := n0_; have HO_6 := n1_; have HO_7 := n2_; have HL142_3 := n3_; have HO151 := n4_; have HL155_3 := n5_; have HO163 := n6_; have HB := n7_; have HO166 := n8_; clear n0_ n1_ n2_ n3_ n4_ n5_ n6_ n7_ n8_; clear ho hb hg hat))
                                  go_roundg k2
                                  case measure => have := HK1.out; have := HK2.out; omega
                                  case rel => exact ⟨(x6_1), (y164), (wrap64 (x8_1 + 1)), (by first | rfl | (simp; done) | (simp [*]; done)), H', ⟨by have := HK1.out; have := HK2.out; omega⟩, ⟨by (with_reducible repeat (first | apply Kd.V_alloc | apply Kd.V_drewN | apply Kd.V_drew)); exact Kd.V_mono HO_0.out (fun _ hk => ⟨hk.1.1, ⟨hk.1.2.1, hk.2⟩⟩)⟩, ⟨by (with_reducible repeat (first | apply Kd.N_alloc | apply Kd.N_drewN | apply Kd.N_drew)); exact Kd.N_mono HO_6.out (fun _ hk => ⟨hk.1.1, hk.2⟩)⟩, ⟨by (with_reducible repeat (first | apply Kd.R_alloc | apply Kd.R_drewN | apply Kd.R_drew)); exact Kd.R_mono HO166.out (fun _ hk => hk.1)⟩, ⟨by repeat (first | (with_reducible first | exact HB.out | apply below_alloc | apply pw_below_drewN | apply below_drew1) | exact HB.out)⟩⟩
                                · rw [if_neg c23] at H
                                  exact absurd H (by simp)
                              · rw [if_neg c20] at H
                                exact absurd H (by simp)
                            · rw [if_neg c19] at H
                              exact absurd H (by simp)
                          · rw [if_neg c18] at H
                            exact absurd H (by simp)
                      · rw [if_neg c11] at H
                        exact absurd H (by simp)
                    · rw [if_neg c10] at H
                      exact absurd H (by simp)
                  · rw [if_neg c9] at H
                    exact absurd H (by simp)
                · rw [if_neg c8] at H
                  have c8b0 : decide (x9_2 < (x7_1.length : Int)) = false := decide_eq_false c8
                  clear c8
                  obtain ⟨y167, hy167⟩ : ∃ y_ : List (S25), y_ = (([] : List (S25))) := ⟨_, rfl⟩
                  replace H : (if 0 ≤ x9_2 then (if x9_2 ≤ (x7_1.length : Int) then ((some (x7_1.take (x9_2 : Int).toNat : List (S25))).bind fun y170 => (if y167.length + y170.length < 5864062014805 then ((some (y167 ++ y170 : List (S25))).bind fun y175 => (if 0 ≤ x8_1 then (if x8_1 < (l0.length : Int) then (if y175.length < 5864062014805 then ((some (y175 ++ [(⟨(rd_T35 l0 x8_1).f0.f0, (rd_T35 l0 x8_1).f0.f1, (rd_T35 l0 x8_1).f0.f2⟩ : S25)] : List (S25))).bind fun y179 => ((some (x7_1.drop (x9_2 : Int).toNat : List (S25))).bind fun y182 => (if y179.length + y182.length < 5864062014805 then (derrickref13_Due.l0 k2 l0 a1 x6_1 (y179 ++ y182) (wrap64 (x8_1 + 1))) else (none)))) else (none)) else (none)) else (none))) else (none))) else (none)) else (none)) = some (r1, r2) := by first | (rw [hy167]; with_reducible exact H) | (have H2_ := (Option.bind_some _ _).symm.trans H; rw [hy167]; with_reducible exact H2_) | (have H2_ := (Option.bind_some _ _).symm.trans H; with_reducible exact H2_) | with_reducible exact H | (rw [hy167]; exact H) | exact H
                  have Ny167 := Aside0.mk hy167
                  clear hy167
                  by_cases c34 : 0 ≤ x9_2
                  · rw [if_pos c34] at H
                    have c34b0 := eq_true c34
                    have c34b1 : decide (0 ≤ x9_2) = true := decide_eq_true c34
                    clear c34
                    by_cases c35 : x9_2 ≤ (x7_1.length : Int)
                    · rw [if_pos c35] at H
                      have c35b0 := eq_true c35
                      have c35b1 : decide (x9_2 ≤ (x7_1.length : Int)) = true := decide_eq_true c35
                      clear c35
                      obtain ⟨y170, hy170⟩ : ∃ y_ : List (S25), y_ = (x7_1.take (x9_2 : Int).toNat) := ⟨_, rfl⟩
                      replace H : (if y167.length + y170.length < 5864062014805 then ((some (y167 ++ y170 : List (S25))).bind fun y175 => (if 0 ≤ x8_1 then (if x8_1 < (l0.length : Int) then (if y175.length < 5864062014805 then ((some (y175 ++ [(⟨(rd_T35 l0 x8_1).f0.f0, (rd_T35 l0 x8_1).f0.f1, (rd_T35 l0 x8_1).f0.f2⟩ : S25)] : List (S25))).bind fun y179 => ((some (x7_1.drop (x9_2 : Int).toNat : List (S25))).bind fun y182 => (if y179.length + y182.length < 5864062014805 then (derrickref13_Due.l0 k2 l0 a1 x6_1 (y179 ++ y182) (wrap64 (x8_1 + 1))) else (none)))) else (none)) else (none)) else (none))) else (none)) = some (r1, r2) := by first | (rw [hy170]; with_reducible exact H) | (have H2_ := (Option.bind_some _ _).symm.trans H; rw [hy170]; with_reducible exact H2_) | (have H2_ := (Option.bind_some _ _).symm.trans H; with_reducible exact H2_) | with_reducible exact H | (rw [hy170]; exact H) | exact H
                      have Ny170 := Aside0.mk hy170
                      clear hy170
                      by_cases c36 : y167.length + y170.length < 5864062014805
                      · rw [if_pos c36] at H
                        have LMc36 := Aside0.mk c36
                        clear c36
                        obtain ⟨y175, hy175⟩ : ∃ y_ : List (S25), y_ = (y167 ++ y170) := ⟨_, rfl⟩
                        replace H : (if 0 ≤ x8_1 then (if x8_1 < (l0.length : Int) then (if y175.length < 5864062014805 then ((some (y175 ++ [(⟨(rd_T35 l0 x8_1).f0.f0, (rd_T35 l0 x8_1).f0.f1, (rd_T35 l0 x8_1).f0.f2⟩ : S25)] : List (S25))).bind fun y179 => ((some (x7_1.drop (x9_2 : Int).toNat : List (S25))).bind fun y182 => (if y179.length + y182.length < 5864062014805 then (derrickref13_Due.l0 k2 l0 a1 x6_1 (y179 ++ y182) (wrap64 (x8_1 + 1))) else (none)))) else (none)) else (none)) else (none)) = some (r1, r2) := by first | (rw [hy175]; with_reducible exact H) | (have H2_ := (Option.bind_some _ _).symm.trans H; rw [hy175]; with_reducible exact H2_) | (have H2_ := (Option.bind_some _ _).symm.trans H; with_reducible exact H2_) | with_reducible exact H | (rw [hy175]; exact H) | exact H
                        have Ny175 := Aside0.mk hy175
                        clear hy175
                        by_cases c37 : 0 ≤ x8_1
                        · rw [if_pos c37] at H
                          have c37b0 : decide (0 ≤ x8_1) = true := decide_eq_true c37
                          clear c37
                          by_cases c38 : x8_1 < (l0.length : Int)
                          · rw [if_pos c38] at H
                            have c38b0 : decide (x8_1 < (l0.length : Int)) = true := decide_eq_true c38
                            clear c38
                            by_cases c39 : y175.length < 5864062014805
                            · rw [if_pos c39] at H
                              have LMc39 := Aside0.mk c39
                              clear c39
                              obtain ⟨y179, hy179⟩ : ∃ y_ : List (S25), y_ = (y175 ++ [(⟨(rd_T35 l0 x8_1).f0.f0, (rd_T35 l0 x8_1).f0.f1, (rd_T35 l0 x8_1).f0.f2⟩ : S25)]) := ⟨_, rfl⟩
                              replace H : ((some (x7_1.drop (x9_2 : Int).toNat : List (S25))).bind fun y182 => (if y179.length + y182.length < 5864062014805 then (derrickref13_Due.l0 k2 l0 a1 x6_1 (y179 ++ y182) (wrap64 (x8_1 + 1))) else (none))) = some (r1, r2) := by first | (rw [hy179]; with_reducible exact H) | (have H2_ := (Option.bind_some _ _).symm.trans H; rw [hy179]; with_reducible exact H2_) | (have H2_ := (Option.bind_some _ _).symm.trans H; with_reducible exact H2_) | with_reducible exact H | (rw [hy179]; exact H) | exact H
                              have Ny179 := Aside0.mk hy179
                              clear hy179
                              have c40b0 := eq_true (of_decide_eq_true (by first | (with_reducible assumption) | assumption) : 0 ≤ x9_2)
                              have c41b0 := eq_true (of_decide_eq_true (by first | (with_reducible assumption) | assumption) : x9_2 ≤ (x7_1.length : Int))
                              obtain ⟨y182, hy182⟩ : ∃ y_ : List (S25), y_ = (x7_1.drop (x9_2 : Int).toNat) := ⟨_, rfl⟩
                              replace H : (if y179.length + y182.length < 5864062014805 then (derrickref13_Due.l0 k2 l0 a1 x6_1 (y179 ++ y182) (wrap64 (x8_1 + 1))) else (none)) = some (r1, r2) := by first | (rw [hy182]; with_reducible exact H) | (have H2_ := (Option.bind_some _ _).symm.trans H; rw [hy182]; with_reducible exact H2_) | (have H2_ := (Option.bind_some _ _).symm.trans H; with_reducible exact H2_) | with_reducible exact H | (rw [hy182]; exact H) | exact H
                              have Ny182 := Aside0.mk hy182
                              clear hy182
                              by_cases c42 : y179.length + y182.length < 5864062014805
                              · rw [if_pos c42] at H
                                have LMc42 := Aside0.mk c42
                                clear c42
                                obtain ⟨y187, hy187⟩ : ∃ y_ : List (S25), y_ = (y179 ++ y182) := ⟨_, rfl⟩
                                replace H : (derrickref13_Due.l0 k2 l0 a1 x6_1 y187 (wrap64 (x8_1 + 1))) = some (r1, r2) := by first | (rw [hy187]; with_reducible exact H) | (have H2_ := (Option.bind_some _ _).symm.trans H; rw [hy187]; with_reducible exact H2_) | (have H2_ := (Option.bind_some _ _).symm.trans H; with_reducible exact H2_) | with_reducible exact H | (rw [hy187]; exact H) | exact H
                                have Ny187 := Aside0.mk hy187
                                clear hy187
                                have H' := Aside0.mk H
                                clear H
                                try go_wp2
                                have n0_ := Aside0.mk (Kd.V_drew HO_0.out)
                                have n1_ := Aside0.mk (Kd.N_drew HO_6.out)
                                have n2_ := Aside0.mk (Kd.R_drew HO_7.out)
                                have n3_ := Aside0.mk (Kd.C_drew HR136_3.out)
                                have n4_ := Aside0.mk (below_drew1 HB.out)
                                clear HO_0
                                clear HO_6
                                clear HO_7
                                clear HR136_3
                                clear HB
                                have HO_0 := n0_
                                have HO_6 := n1_
                                have HO_7 := n2_
                                have HR136_3 := n3_
                                have HB := n4_
                                clear n0_ n1_ n2_ n3_ n4_
                                obtain ⟨Ao44, co44, eo44⟩ := Kd.R_slice HO_7.out
                                (first | subst eo44 | (injection eo44 with f1_ f2_ f3_; have f4_ := f1_.symm; have f5_ := f3_.symm; clear f1_ f2_ f3_; subst f4_; subst f5_))
                                refine start_ (n := 16) (S := fun w' => True) (ds := []) #[false, false, false, false, false, false, false, false, false, false, false, false, false, false, false, false] (by kernel_rfl) rfl rfl trivial (fun hHeld => ?_); refine with_tabW derrickref13_Due.tab9 derrickref13_Due.bits9 (fun HT_ HW_ => ?_)
                                generalize wr.drew = w43 at HO_0 HO_6 HO_7 HR136_3 HB hHeld ⊢
                                refine pure_ (i := 0) (N := some 31) (v := ?_) (a' := ?_) #[true, false, false, false, false, false, false, false, false, false, false, false, false, false, false, false] rfl rfl (any_of HT_.out (by kernel_rfl)) (fun _ _ _ h => h) (Or.inl ⟨by rfl, ?_⟩) ?_ ?_
                                rotate_left
                                · intro w'
                                  go_simp
                                  with_reducible rfl
                                rotate_left
                                · simp only [Act.put, List.setIfInBounds_toArray, List.set_cons_zero, List.set_cons_succ, i64_w, i32_w]
                                  rfl
                                refine pure_ (i := 1) (N := some 32) (v := ?_) (a' := ?_) #[true, true, false, false, false, false, false, false, false, false, false, false, false, false, false, false] rfl rfl (any_of HT_.out (by kernel_rfl)) (fun _ _ _ h => h) (Or.inl ⟨by rfl, ?_⟩) ?_ ?_
                                rotate_left
                                · intro w'
                                  go_simp
                                  with_reducible rfl
                                rotate_left
                                · simp only [Act.put, List.setIfInBounds_toArray, List.set_cons_zero, List.set_cons_succ, i64_w, i32_w]
                                  rfl
                                refine pure_ (i := 2) (N := some 33) (v := ?_) (a' := ?_) #[true, true, true, false, false, false, false, false, false, false, false, false, false, false, false, false] rfl rfl (any_of HT_.out (by kernel_rfl)) (fun _ _ _ h => h) (Or.inl ⟨by rfl, ?_⟩) ?_ ?_
                                rotate_left
                                · intro w'
                                  go_simp
                                  with_reducible rfl
                                rotate_left
                                · simp only [Act.put, List.setIfInBounds_toArray, List.set_cons_zero, List.set_cons_succ, i64_w, i32_w]
                                  rfl
                                refine pure_ (i := 3) (N := some 34) (v := ?_) (a' := ?_) #[true, true, true, true, false, false, false, false, false, false, false, false, false, false, false, false] rfl rfl (any_of HT_.out (by kernel_rfl)) (fun _ _ _ h => h) (Or.inl ⟨by rfl, ?_⟩) ?_ ?_
                                rotate_left
                                · intro w'
                                  go_simp
                                  with_reducible rfl
                                rotate_left
                                · simp only [Act.put, List.setIfInBounds_toArray, List.set_cons_zero, List.set_cons_succ, i64_w, i32_w]
                                  rfl
                                refine pure_ (i := 4) (N := some 35) (v := ?_) (a' := ?_) #[true, true, true, true, true, false, false, false, false, false, false, false, false, false, false, false] rfl rfl (any_of HT_.out (by kernel_rfl)) (fun _ _ _ h => h) (Or.inl ⟨by rfl, ?_⟩) ?_ ?_
                                rotate_left
                                · intro w'
                                  go_simp
                                  with_reducible rfl
                                rotate_left
                                · simp only [Act.put, List.setIfInBounds_toArray, List.set_cons_zero, List.set_cons_succ, i64_w, i32_w]
                                  rfl
                                refine pure_ (i := 5) (N := some 36) (v := undef) (a' := ?_) #[true, true, true, true, true, true, false, false, false, false, false, false, false, false, false, false] rfl rfl (any_of HT_.out (by kernel_rfl)) (fun _ _ _ h => h) (Or.inr ⟨by rfl, rfl⟩) ?_ ?_
                                rotate_left
                                · simp only [Act.put, List.setIfInBounds_toArray, List.set_cons_zero, List.set_cons_succ, i64_w, i32_w]
                                  rfl
                                refine pure_ (i := 6) (N := some 37) (v := undef) (a' := ?_) #[true, true, true, true, true, true, true, false, false, false, false, false, false, false, false, false] rfl rfl (any_of HT_.out (by kernel_rfl)) (fun _ _ _ h => h) (Or.inr ⟨by rfl, rfl⟩) ?_ ?_
                                rotate_left
                                · simp only [Act.put, List.setIfInBounds_toArray, List.set_cons_zero, List.set_cons_succ, i64_w, i32_w]
                                  rfl
                                refine pure_ (i := 7) (N := some 38) (v := undef) (a' := ?_) #[true, true, true, true, true, true, true, true, false, false, false, false, false, false, false, false] rfl rfl (any_of HT_.out (by kernel_rfl)) (fun _ _ _ h => h) (Or.inr ⟨by rfl, rfl⟩) ?_ ?_
                                rotate_left
                                · simp only [Act.put, List.setIfInBounds_toArray, List.set_cons_zero, List.set_cons_succ, i64_w, i32_w]
                                  rfl
                                refine pure_ (i := 8) (N := some 39) (v := undef) (a' := ?_) #[true, true, true, true, true, true, true, true, true, false, false, false, false, false, false, false] rfl rfl (any_of HT_.out (by kernel_rfl)) (fun _ _ _ h => h) (Or.inr ⟨by rfl, rfl⟩) ?_ ?_
                                rotate_left
                                · simp only [Act.put, List.setIfInBounds_toArray, List.set_cons_zero, List.set_cons_succ, i64_w, i32_w]
                                  rfl
                                refine pure_ (i := 9) (N := some 40) (v := undef) (a' := ?_) #[true, true, true, true, true, true, true, true, true, true, false, false, false, false, false, false] rfl rfl (any_of HT_.out (by kernel_rfl)) (fun _ _ _ h => h) (Or.inr ⟨by rfl, rfl⟩) ?_ ?_
                                rotate_left
                                · simp only [Act.put, List.setIfInBounds_toArray, List.set_cons_zero, List.set_cons_succ, i64_w, i32_w]
                                  rfl
                                refine pure_ (i := 10) (N := some 41) (v := undef) (a' := ?_) #[true, true, true, true, true, true, true, true, true, true, true, false, false, false, false, false] rfl rfl (any_of HT_.out (by kernel_rfl)) (fun _ _ _ h => h) (Or.inr ⟨by rfl, rfl⟩) ?_ ?_
                                rotate_left
                                · simp only [Act.put, List.setIfInBounds_toArray, List.set_cons_zero, List.set_cons_succ, i64_w, i32_w]
                                  rfl
                                refine pure_ (i := 11) (N := some 42) (v := undef) (a' := ?_) #[true, true, true, true, true, true, true, true, true, true, true, true, false, false, false, false] rfl rfl (any_of HT_.out (by kernel_rfl)) (fun _ _ _ h => h) (Or.inr ⟨by rfl, rfl⟩) ?_ ?_
                                rotate_left
                                · simp only [Act.put, List.setIfInBounds_toArray, List.set_cons_zero, List.set_cons_succ, i64_w, i32_w]
                                  rfl
                                refine pure_ (i := 12) (N := some 43) (v := undef) (a' := ?_) #[true, true, true, true, true, true, true, true, true, true, true, true, true, false, false, false] rfl rfl (any_of HT_.out (by kernel_rfl)) (fun _ _ _ h => h) (Or.inr ⟨by rfl, rfl⟩) ?_ ?_
                                rotate_left
                                · simp only [Act.put, List.setIfInBounds_toArray, List.set_cons_zero, List.set_cons_succ, i64_w, i32_w]
                                  rfl
                                refine pure_ (i := 13) (N := some 44) (v := undef) (a' := ?_) #[true, true, true, true, true, true, true, true, true, true, true, true, true, true, false, false] rfl rfl (any_of HT_.out (by kernel_rfl)) (fun _ _ _ h => h) (Or.inr ⟨by rfl, rfl⟩) ?_ ?_
                                rotate_left
                                · simp only [Act.put, List.setIfInBounds_toArray, List.set_cons_zero, List.set_cons_succ, i64_w, i32_w]
                                  rfl
                                refine pure_ (i := 14) (N := some 45) (v := undef) (a' := ?_) #[true, true, true, true, true, true, true, true, true, true, true, true, true, true, true, false] rfl rfl (any_of HT_.out (by kernel_rfl)) (fun _ _ _ h => h) (Or.inr ⟨by rfl, rfl⟩) ?_ ?_
                                rotate_left
                                · simp only [Act.put, List.setIfInBounds_toArray, List.set_cons_zero, List.set_cons_succ, i64_w, i32_w]
                                  rfl
                                refine pure_ (i := 15) (N := some 46) (v := ?_) (a' := ?_) #[true, true, true, true, true, true, true, true, true, true, true, true, true, true, true, true] rfl rfl (any_of HT_.out (by kernel_rfl)) (fun _ _ _ h => h) (Or.inl ⟨by rfl, ?_⟩) ?_ ?_
                                rotate_left
                                · intro w'
                                  go_simp
                                  with_reducible rfl
                                rotate_left
                                · simp only [Act.put, List.setIfInBounds_toArray, List.set_cons_zero, List.set_cons_succ, i64_w, i32_w]
                                  rfl
                                refine done_ (done_of HT_.out (by kernel_rfl)) ?_
                                try go_wp2_with (first | ((with_reducible refine gate_dst (N := 49) rfl ?_); refine Kd.R_lit k25 _ 25 ?hg (N := 49) ?hd (xs := ([] : List (S25))) (inner := []) (ok := fun _ => True) (okp := fun _ => True) ?hr ?hp (fun _ hk => hk) trivial (Below.refl _ _) (Nat.le_refl _) (by simp) ?_; (case hd => rfl); (case hg => rfl); (case hr => first | (go_simp; done) | (go_simp; rfl)); (case hp => exact (Reps.none _ _)); intro v168 w45 ho46 hb hg_ hnew_; clear hg_ hnew_; (first | rw [← Ny167.out] at ho46 | (simp only [Int.reduceToNat] at ho46; rw [← Ny167.out] at ho46)); have n0_ := Aside0.mk (Kd.V_elder' (by (with_reducible repeat (first | apply Kd.V_alloc | apply Kd.V_drewN | apply Kd.V_drew)); exact HO_0.out) (Kd.R_base ho46) hb); have n1_ := Aside0.mk (Kd.N_elder' (by (with_reducible repeat (first | apply Kd.N_alloc | apply Kd.N_drewN | apply Kd.N_drew)); exact HO_6.out) (Kd.R_base ho46) hb); have n2_ := Aside0.mk (Kd.R_elder' (by (with_reducible repeat (first | apply Kd.R_alloc | apply Kd.R_drewN | apply Kd.R_drew)); exact HO_7.out) (Kd.R_base ho46) hb); have n3_ := Aside0.mk (Kd.R_lower (Kd.R_new' (Kd.R_newM (M := fun k_ => (w.heap.size ≤ k_)) ho46 (below_size (by repeat (first | (with_reducible first | exact HB.out | apply below_alloc | apply pw_below_drewN | apply below_drew1) | exact HB.out))) (fun k_ h_ => h_)) (Kd.R_lt (by (with_reducible repeat (first | apply Kd.R_alloc | apply Kd.R_drewN | apply Kd.R_drew)); exact HO_7.out))) (below_size (by repeat (first | (with_reducible first | exact HB.out | apply below_alloc | apply pw_below_drewN | apply below_drew1) | exact HB.out)))); have n4_ := Aside0.mk (Kd.C_below (by repeat (first | (with_reducible exact HR136_3.out) | (with_reducible refine Kd.C_alloc ?_ _) | (with_reducible refine Kd.C_drewN ?_ _) | (with_reducible refine Kd.C_drew ?_) | exact HR136_3.out)) hb); have n5_ := Aside0.mk (below_step (by repeat (first | (with_reducible first | exact HB.out | apply below_alloc | apply pw_below_drewN | apply below_drew1) | exact HB.out)) hb); clear HO_0; clear HO_6; clear HO_7; clear HR136_3; clear HB; have HO_0 := n0_; have HO_6 := n1_; have HO_7 := n2_; have HO169 := n3_; have HR136_3 := n4_; have HB := n5_; clear n0_ n1_ n2_ n3_ n4_ n5_; clear hb ho46; have q47 : (x9_2 : Int) ≤ ((x7_1.length : Int) : Int) := of_decide_eq_true (by first | (with_reducible assumption) | assumption); obtain ⟨i047, hi047, _, hsz47, _⟩ := info_parts info25; have hroom47 : x7_1.length ≤ co44 := (Kd.R_reads' HO_7.out).2.1; have hC47 : Kd.F k25 _ _ Ao44 x7_1.length x7_1 := (Kd.V_at (base := w.heap.size) (Kd.V_mono (ok' := (fun k_ => (((P0_ k_ ∨ w.heap.size ≤ k_) ∧ some k_ ≠ (v168 : Value).ownBlock) ∧ some k_ ≠ (u6 : Value).ownBlock))) (Kd.R_V (Kd.R_apart' (HO_7.out) (Kd.N_typed HO_6.out) (by decide))) (fun k_ hk => ⟨⟨(.inr (hk.1.1)), hk.1.2⟩, hk.2⟩))).2.2; have hcut47 := cut_to (P := Try.prog) 51 25 .i64 Try.underlying51 hi047 Ao44 x7_1.length co44 x9_2 (of_decide_eq_true (by first | (with_reducible assumption) | assumption)) q47 hroom47; have hr47 := Kd.F_take (m := (x9_2 : Int).toNat) hC47 (by omega); have hy47 : y170.length = (x9_2 : Int).toNat := (by rw [Ny170.out, List.length_take]; omega); rw [← Ny170.out] at hr47; rw [← hy47] at hcut47; have HO174 := Aside0.mk (show Kd.V k25 25 _ w.heap.size _ (.slice Ao44 y170.length co44) y170 from Kd.V_mk (by omega) hr47); have HC174 := Aside0.mk (show y170.length ≤ co44 from by omega); clear hr47 hC47 hroom47 hi047 hsz47; have KY47 := Aside0.mk hy47; clear hy47; replace q47 := eq_true q47) | ((with_reducible refine gate_builtin (b := .append) (xs := #[.tmp 49, .tmp 52]) rfl ?_); at_builtin; refine Kd.R_append_rows k25 (w0 := w) w.heap.size rfl (.tmp 49) (.tmp 52) 51 25 (.agg #[(.string ⟨#[]⟩), (.int .u16 0), (.int .u16 0)]) 24 rfl Try.underlying51 info25 rfl (by decide) (by omega) v168 y167 y170 _ _ _ (fun k_ => (w.heap.size ≤ k_) ∧ some k_ ≠ (.slice Ao44 x7_1.length co44 : Value).ownBlock) (fun _ => False) rfl rfl ?aO ?aR (fun _ _ h => h) (fun _ h => h.elim) ?aF ?aB ?aS ?aL ?_; (case aR => repeat (first | exact (Kd.V_reads' HO174.out).2.2 | (with_reducible refine Kd.C_alloc ?_ _) | (with_reducible refine Kd.C_drewN ?_ _) | (with_reducible refine Kd.C_drew ?_))); (case aB => exact (by repeat (first | (with_reducible first | exact HB.out | apply below_alloc | apply pw_below_drewN | apply below_drew1) | exact HB.out))); (case aF => exact (fun k_ hk => ⟨(Nat.le_trans (below_size (by repeat (first | (with_reducible first | exact HB.out | apply below_alloc | apply pw_below_drewN | apply below_drew1) | exact HB.out))) hk), Kd.fresh' (Kd.R_lt (by (with_reducible repeat (first | apply Kd.R_alloc | apply Kd.R_drewN | apply Kd.R_drew)); exact HO_7.out)) k_ hk⟩)); (case aO => exact (by (with_reducible repeat (first | apply Kd.R_alloc | apply Kd.R_drewN | apply Kd.R_drew)); exact Kd.R_mono HO169.out (fun _ hk => ⟨hk.1.1, hk.2⟩))); (case aS => exact (below_size (by repeat (first | (with_reducible first | exact HB.out | apply below_alloc | apply pw_below_drewN | apply below_drew1) | exact HB.out)))); (case aL => have := LMc36.out; omega); intro v176 w48 ho hb hg hat; rw [← Ny175.out] at ho; have n0_ := Aside0.mk (Kd.V_afterv (ok := (fun k_ => (P0_ k_ ∨ w.heap.size ≤ k_) ∧ some k_ ≠ (u6 : Value).ownBlock ∧ some k_ ≠ (.slice Ao44 x7_1.length co44 : Value).ownBlock)) (by (with_reducible repeat (first | apply Kd.V_alloc | apply Kd.V_drewN | apply Kd.V_drew)); exact HO_0.out) hg hat); have n1_ := Aside0.mk (Kd.N_afterv (ok := (fun k_ => (P0_ k_ ∨ w.heap.size ≤ k_) ∧ some k_ ≠ (.slice Ao44 x7_1.length co44 : Value).ownBlock)) (by (with_reducible repeat (first | apply Kd.N_alloc | apply Kd.N_drewN | apply Kd.N_drew)); exact HO_6.out) hg hat); have n2_ := Aside0.mk (Kd.R_after (ok := (fun k_ => (w.heap.size ≤ k_))) (by (with_reducible repeat (first | apply Kd.R_alloc | apply Kd.R_drewN | apply Kd.R_drew)); exact HO_7.out) hg hat); have n3_ := Aside0.mk (Kd.V_afterv (ok := (fun k_ => (P0_ k_ ∨ w.heap.size ≤ k_) ∧ some k_ ≠ (u6 : Value).ownBlock)) (by (with_reducible repeat (first | apply Kd.V_alloc | apply Kd.V_drewN | apply Kd.V_drew)); exact Kd.V_mono HO174.out (fun _ hk => ⟨⟨hk.1.1, hk.2⟩, hk.1.2⟩)) hg hat); have n4_ := Aside0.mk (hb); have n5_ := Aside0.mk (ho); clear HO_0; clear HO_6; clear HO_7; clear HO174; clear HB; clear HO169; have HO_0 := n0_; have HO_6 := n1_; have HO_7 := n2_; have HO174 := n3_; have HB := n4_; have HO177 := n5_; clear n0_ n1_ n2_ n3_ n4_ n5_; clear ho hb hg hat; have p178 : 0 ≤ (x8_1 : Int) := of_decide_eq_true (by first | (with_reducible assumption) | assumption); have q178 : x8_1 < (l0.length : Int) := of_decide_eq_true (by first | (with_reducible assumption) | assumption); obtain ⟨ad178, A178_3, c178_3, e178, hx178_0, hx178_1, hx178_2, hx178_3, hx178_4, hx178_5, hx178_6, hl178_3, hi178_3⟩ := at_T35 (Kd.V_reads' HO_0.out).2.2 x8_1 p178 q178; obtain rfl : ad136 = ad178 := (by injection e178); obtain ⟨ce178, hce178, hMe178, hcc178⟩ := Kd.V_get HO_0.out z35 x8_1 p178 (by first | exact q178 | exact of_decide_eq_true (by first | (with_reducible assumption) | assumption) | (have e_ := (Kd.V_reads' HO_0.out).1; omega)); obtain ⟨ua178_3, uc178_3, rfl, ul178_3, ge178_3⟩ := k35_openF hMe178; have hv178_3 := hcc178 3 _ rfl; rw [add_field _ _ 3 (by omega)] at hv178_3; replace hv178_3 := Option.some.inj (hv178_3.symm.trans hx178_3); injection hv178_3 with hva_ hvn_ hvc_; rw [hva_] at ge178_3; rw [hvc_] at ul178_3; have HL178_3 := Aside0.mk (show Kd.V k70 70 _ w.heap.size _ _ ((rd_T35 l0 x8_1).f1) from Kd.V_mk ul178_3 ge178_3); clear hva_ hvn_ hvc_ ge178_3 ul178_3; clear hcc178 hce178; have HR178_3 := Aside0.mk hi178_3; have HC178_3 := Aside0.mk hl178_3; clear hi178_3 hl178_3; replace p178 := eq_true p178; replace q178 := eq_true q178) | ((with_reducible refine gate_builtin (b := .append) (xs := #[.tmp 54, .tmp 60]) rfl ?_); at_builtin; refine Kd.R_append k25 (w0 := w) w.heap.size rfl (.tmp 54) (.tmp 60) 51 25 (.agg #[(.string ⟨#[]⟩), (.int .u16 0), (.int .u16 0)]) 24 rfl Try.underlying51 info25 rfl (by decide) (by omega) v176 y175 (⟨(rd_T35 l0 x8_1).f0.f0, (rd_T35 l0 x8_1).f0.f1, (rd_T35 l0 x8_1).f0.f2⟩ : S25) [.string ((rd_T35 l0 x8_1).f0.f0), .int .u16 ((rd_T35 l0 x8_1).f0.f1), .int .u16 ((rd_T35 l0 x8_1).f0.f2)] (fun k_ => (w.heap.size ≤ k_) ∧ some k_ ≠ (.slice Ao44 x7_1.length co44 : Value).ownBlock) (fun _ => False) rfl rfl ?aP (fun _ hk => hk.elim) ?aF ?aO ?aB ?aS ?aL ?_; (case aP => exact k25_mkM _ _ _ (⟨(rd_T35 l0 x8_1).f0.f0, (rd_T35 l0 x8_1).f0.f1, (rd_T35 l0 x8_1).f0.f2⟩ : S25)); (case aB => exact (by repeat (first | (with_reducible first | exact HB.out | apply below_alloc | apply pw_below_drewN | apply below_drew1) | exact HB.out))); (case aF => exact (fun k_ hk => ⟨(Nat.le_trans (below_size (by repeat (first | (with_reducible first | exact HB.out | apply below_alloc | apply pw_below_drewN | apply below_drew1) | exact HB.out))) hk), Kd.fresh' (Kd.R_lt (by (with_reducible repeat (first | apply Kd.R_alloc | apply Kd.R_drewN | apply Kd.R_drew)); exact HO_7.out)) k_ hk⟩)); (case aO => exact (by (with_reducible repeat (first | apply Kd.R_alloc | apply Kd.R_drewN | apply Kd.R_drew)); exact HO177.out)); (case aS => exact (below_size (by repeat (first | (with_reducible first | exact HB.out | apply below_alloc | apply pw_below_drewN | apply below_drew1) | exact HB.out)))); (case aL => have := LMc39.out; omega); intro v180 w49 ho hb hg hat; rw [← Ny179.out] at ho; have n0_ := Aside0.mk (Kd.V_afterv (ok := (fun k_ => (P0_ k_ ∨ w.heap.size ≤ k_) ∧ some k_ ≠ (u6 : Value).ownBlock ∧ some k_ ≠ (.slice Ao44 x7_1.length co44 : Value).ownBlock)) (by (with_reducible repeat (first | apply Kd.V_alloc | apply Kd.V_drewN | apply Kd.V_drew)); exact HO_0.out) hg hat); have n1_ := Aside0.mk (Kd.N_afterv (ok := (fun k_ => (P0_ k_ ∨ w.heap.size ≤ k_) ∧ some k_ ≠ (.slice Ao44 x7_1.length co44 : Value).ownBlock)) (by (with_reducible repeat (first | apply Kd.N_alloc | apply Kd.N_drewN | apply Kd.N_drew)); exact HO_6.out) hg hat); have n2_ := Aside0.mk (Kd.R_after (ok := (fun k_ => (w.heap.size ≤ k_))) (by (with_reducible repeat (first | apply Kd.R_alloc | apply Kd.R_drewN | apply Kd.R_drew)); exact HO_7.out) hg hat); have n3_ := Aside0.mk (Kd.V_afterv (ok := (fun k_ => (P0_ k_ ∨ w.heap.size ≤ k_) ∧ some k_ ≠ (u6 : Value).ownBlock)) (by (with_reducible repeat (first | apply Kd.V_alloc | apply Kd.V_drewN | apply Kd.V_drew)); exact HO174.out) hg hat); have n4_ := Aside0.mk (Kd.V_afterv (ok := (fun k_ => (P0_ k_ ∨ w.heap.size ≤ k_) ∧ some k_ ≠ (u6 : Value).ownBlock ∧ some k_ ≠ (.slice Ao44 x7_1.length co44 : Value).ownBlock)) (by (with_reducible repeat (first | apply Kd.V_alloc | apply Kd.V_drewN | apply Kd.V_drew)); exact HL178_3.out) hg hat); have n5_ := Aside0.mk (hb); have n6_ := Aside0.mk (ho); clear HO_0; clear HO_6; clear HO_7; clear HO174; clear HL178_3; clear HB; clear HO177; have HO_0 := n0_; have HO_6 := n1_; have HO_7 := n2_; have HO174 := n3_; have HL178_3 := n4_; have HB := n5_; have HO181 := n6_; clear n0_ n1_ n2_ n3_ n4_ n5_ n6_; clear ho hb hg hat; have q50 : (x9_2 : Int) ≤ ((x7_1.length : Int) : Int) := of_decide_eq_true (by first | (with_reducible assumption) | assumption); obtain ⟨i050, hi050, _, hsz50, _⟩ := info_parts info25; have hroom50 : x7_1.length ≤ co44 := (Kd.R_reads' HO_7.out).2.1; have hC50 : Kd.F k25 _ _ Ao44 x7_1.length x7_1 := (Kd.V_at (base := w.heap.size) (Kd.V_mono (ok' := (fun k_ => (((P0_ k_ ∨ w.heap.size ≤ k_) ∧ some k_ ≠ (v180 : Value).ownBlock) ∧ some k_ ≠ (u6 : Value).ownBlock))) (Kd.R_V (Kd.R_apart' (HO_7.out) (Kd.N_typed HO_6.out) (by decide))) (fun k_ hk => ⟨⟨(.inr (hk.1.1)), hk.1.2⟩, hk.2⟩))).2.2; have q050 : (0 : Int) ≤ (x9_2 : Int) := of_decide_eq_true (by first | (with_reducible assumption) | assumption); have hcut50 := cut_from (P := Try.prog) 51 25 .i64 Try.underlying51 hi050 3 hsz50 Ao44 x7_1.length co44 x9_2 q050 q50; have hr50 := Kd.F_cut (m := (x9_2 : Int).toNat) (c := co44) hC50 (by omega) hroom50; obtain ⟨A50, hA50⟩ : ∃ A1, A1 = (if co44 = (x9_2 : Int).toNat then Ao44 else (Ao44 : Option Addr).map (·.add ((x9_2 : Int).toNat * 3))) := ⟨_, rfl⟩; obtain ⟨c50, hc50⟩ : ∃ c1, c1 = co44 - (x9_2 : Int).toNat := ⟨_, rfl⟩; have hy50 : y182.length = x7_1.length - (x9_2 : Int).toNat := (by rw [Ny182.out, List.length_drop] <;> omega); rw [show (x7_1).drop (x9_2 : Int).toNat = y182 from Ny182.out.symm] at hr50; replace hr50 : Kd.F k25 _ _ A50 y182.length y182 := (by rw [hA50]; exact hr50); rw [← hy50, ← hA50, ← hc50] at hcut50; have HO186 := Aside0.mk (show Kd.V k25 25 _ w.heap.size _ (.slice A50 y182.length c50) y182 from Kd.V_mk (by rw [hy50, hc50]; exact Nat.sub_le_sub_right hroom50 _) hr50); have HC186 := Aside0.mk (show y182.length ≤ c50 from by rw [hy50, hc50]; exact Nat.sub_le_sub_right hroom50 _); clear hr50 hC50 hroom50 hi050 hsz50 hc50; have KY50 := Aside0.mk hy50; have KA50 := Aside0.mk hA50; clear hy50 hA50; replace q50 := eq_true q50) | ((with_reducible refine gate_builtin (b := .append) (xs := #[.tmp 62, .tmp 65]) rfl ?_); at_builtin; refine Kd.R_append_rows k25 (w0 := w) w.heap.size rfl (.tmp 62) (.tmp 65) 51 25 (.agg #[(.string ⟨#[]⟩), (.int .u16 0), (.int .u16 0)]) 24 rfl Try.underlying51 info25 rfl (by decide) (by omega) v180 y179 y182 _ _ _ (fun k_ => (w.heap.size ≤ k_) ∧ some k_ ≠ (.slice Ao44 x7_1.length co44 : Value).ownBlock) (fun _ => False) rfl rfl ?aO ?aR (fun _ _ h => h) (fun _ h => h.elim) ?aF ?aB ?aS ?aL ?_; (case aR => repeat (first | exact (Kd.V_reads' HO186.out).2.2 | (with_reducible refine Kd.C_alloc ?_ _) | (with_reducible refine Kd.C_drewN ?_ _) | (with_reducible refine Kd.C_drew ?_))); (case aB => exact (by repeat (first | (with_reducible first | exact HB.out | apply below_alloc | apply pw_below_drewN | apply below_drew1) | exact HB.out))); (case aF => exact (fun k_ hk => ⟨(Nat.le_trans (below_size (by repeat (first | (with_reducible first | exact HB.out | apply below_alloc | apply pw_below_drewN | apply below_drew1) | exact HB.out))) hk), Kd.fresh' (Kd.R_lt (by (with_reducible repeat (first | apply Kd.R_alloc | apply Kd.R_drewN | apply Kd.R_drew)); exact HO_7.out)) k_ hk⟩)); (case aO => exact (by (with_reducible repeat (first | apply Kd.R_alloc | apply Kd.R_drewN | apply Kd.R_drew)); exact HO181.out)); (case aS => exact (below_size (by repeat (first | (with_reducible first | exact HB.out | apply below_alloc | apply pw_below_drewN | apply below_drew1) | exact HB.out)))); (case aL => have := LMc42.out; omega); intro v188 w51 ho hb hg hat; rw [← Ny187.out] at ho; have n0_ := Aside0.mk (Kd.V_afterv (ok := (fun k_ => (P0_ k_ ∨ w.heap.size ≤ k_) ∧ some k_ ≠ (u6 : Value).ownBlock ∧ some k_ ≠ (.slice Ao44 x7_1.length co44 : Value).ownBlock)) (by (with_reducible repeat (first | apply Kd.V_alloc | apply Kd.V_drewN | apply Kd.V_drew)); exact HO_0.out) hg hat); have n1_ := Aside0.mk (Kd.N_afterv (ok := (fun k_ => (P0_ k_ ∨ w.heap.size ≤ k_) ∧ some k_ ≠ (.slice Ao44 x7_1.length co44 : Value).ownBlock)) (by (with_reducible repeat (first | apply Kd.N_alloc | apply Kd.N_drewN | apply Kd.N_drew)); exact HO_6.out) hg hat); have n2_ := Aside0.mk (Kd.R_after (ok := (fun k_ => (w.heap.size ≤ k_))) (by (with_reducible repeat (first | apply Kd.R_alloc | apply Kd.R_drewN | apply Kd.R_drew)); exact HO_7.out) hg hat); have n3_ := Aside0.mk (Kd.V_afterv (ok := (fun k_ => (P0_ k_ ∨ w.heap.size ≤ k_) ∧ some k_ ≠ (u6 : Value).ownBlock)) (by (with_reducible repeat (first | apply Kd.V_alloc | apply Kd.V_drewN | apply Kd.V_drew)); exact HO174.out) hg hat); have n4_ := Aside0.mk (Kd.V_afterv (ok := (fun k_ => (P0_ k_ ∨ w.heap.size ≤ k_) ∧ some k_ ≠ (u6 : Value).ownBlock ∧ some k_ ≠ (.slice Ao44 x7_1.length co44 : Value).ownBlock)) (by (with_reducible repeat (first | apply Kd.V_alloc | apply Kd.V_drewN | apply Kd.V_drew)); exact HL178_3.out) hg hat); have n5_ := Aside0.mk (Kd.V_afterv (ok := (fun k_ => (P0_ k_ ∨ w.heap.size ≤ k_) ∧ some k_ ≠ (u6 : Value).ownBlock)) (by (with_reducible repeat (first | apply Kd.V_alloc | apply Kd.V_drewN | apply Kd.V_drew)); exact Kd.V_mono HO186.out (fun _ hk => ⟨⟨hk.1.1, hk.2⟩, hk.1.2⟩)) hg hat); have n6_ := Aside0.mk (hb); have n7_ := Aside0.mk (ho); clear HO_0; clear HO_6; clear HO_7; clear HO174; clear HL178_3; clear HO186; clear HB; clear HO181; have HO_0 := n0_; have HO_6 := n1_; have HO_7 := n2_; have HO174 := n3_; have HL178_3 := n4_; have HO186 := n5_; have HB := n6_; have HO189 := n7_; clear n0_ n1_ n2_ n3_ n4_ n5_ n6_ n7_; clear ho hb hg hat))
                                go_roundg k2
                                case measure => have := HK1.out; have := HK2.out; omega
                                case rel => exact ⟨(x6_1), (y187), (wrap64 (x8_1 + 1)), (by first | rfl | (simp; done) | (simp [*]; done)), H', ⟨by have := HK1.out; have := HK2.out; omega⟩, ⟨by (with_reducible repeat (first | apply Kd.V_alloc | apply Kd.V_drewN | apply Kd.V_drew)); exact Kd.V_mono HO_0.out (fun _ hk => ⟨hk.1.1, ⟨hk.1.2.1, hk.2⟩⟩)⟩, ⟨by (with_reducible repeat (first | apply Kd.N_alloc | apply Kd.N_drewN | apply Kd.N_drew)); exact Kd.N_mono HO_6.out (fun _ hk => ⟨hk.1.1, hk.2⟩)⟩, ⟨by (with_reducible repeat (first | apply Kd.R_alloc | apply Kd.R_drewN | apply Kd.R_drew)); exact Kd.R_mono HO189.out (fun _ hk => hk.1)⟩, ⟨by repeat (first | (with_reducible first | exact HB.out | apply below_alloc | apply pw_below_drewN | apply below_drew1) | exact HB.out)⟩⟩
                              · rw [if_neg c42] at H
                                exact absurd H (by simp)
                            · rw [if_neg c39] at H
                              exact absurd H (by simp)
                          · rw [if_neg c38] at H
                            exact absurd H (by simp)
                        · rw [if_neg c37] at H
                          exact absurd H (by simp)
                      · rw [if_neg c36] at H
                        exact absurd H (by simp)
                    · rw [if_neg c35] at H
                      exact absurd H (by simp)
                  · rw [if_neg c34] at H
                    exact absurd H (by simp)
        · rw [if_neg c4] at H
          exact absurd H (by simp)
      · rw [if_neg c3] at H
        have c3b0 : decide (x8_1 < (l0.length : Int)) = false := decide_eq_false c3
        clear c3
        simp only [Option.some.injEq, Prod.mk.injEq] at H
        obtain ⟨rfl, rfl⟩ := H
        go_wp2
        go_ret2
        exact ⟨_, _, by first | rfl | (simp [errW_none, errW_some] <;> rfl) | (simp [*, errW_none, errW_some] <;> rfl), by (with_reducible repeat (first | apply Kd.N_alloc | apply Kd.N_drewN | apply Kd.N_drew)); exact HO_6.out, by (with_reducible repeat (first | apply Kd.R_alloc | apply Kd.R_drewN | apply Kd.R_drew)); exact HO_7.out, by repeat (first | (with_reducible first | exact HB.out | apply below_alloc | apply pw_below_drewN | apply below_drew1) | exact HB.out)⟩

end Go.Proofs.Ytnikhiegnledlaa.PPM
