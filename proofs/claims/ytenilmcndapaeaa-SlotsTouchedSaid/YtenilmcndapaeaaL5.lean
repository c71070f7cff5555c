import Derived.Test.YtenilmcndapaeaaL4
namespace Go.Proofs.Ytenilmcndapaeaa
open Go.RowKit

theorem touch_keeps {s : SS} {i : Int} : (s.touch i).all = s.all ∧ (s.touch i).l.length = s.l.length := by
  unfold SS.touch
  split
  · rename_i hu
    obtain ⟨k, a, rfl, hk, ha, hlt⟩ := SS.used_true hu
    refine ⟨?_, by simp [SS.at]⟩
    refine all_congr (by simp [SS.at]) (fun x => ?_)
    simp only [SS.at, Int.toNat_natCast]
    by_cases e : k = x
    · subst e
      have e2 : s.l[k] = a := by rw [List.getElem?_eq_getElem hlt] at hk; simpa using hk
      simp [hlt, e2, ha]
    · rw [List.getElem?_set_ne e]
  · exact ⟨rfl, rfl⟩
theorem used_of_all {s t : SS} (h : s.all = t.all) (hl : s.l.length = t.l.length) (i : Nat) : s.used i = t.used i := by
  have key : ∀ u : SS, u.used i = true ↔ i ∈ u.all := by
    intro u
    rw [mem_all]
    unfold SS.used
    constructor
    · intro h'
      obtain ⟨k, a, hk, hka, ha, hlt⟩ := SS.used_true h'
      obtain rfl : i = k := by omega
      refine ⟨hlt, ?_⟩
      rw [List.getElem?_eq_getElem hlt] at hka
      simp only [Option.some.injEq] at hka
      rw [hka]; exact ha
    · rintro ⟨h1, h2⟩; simp [h1, h2]
  rw [Bool.eq_iff_iff, key, key, h]

set_option maxRecDepth 100000 in
set_option maxHeartbeats 4000000 in
theorem touched_any {w : World} {v : Value} {ds : List Dd} (h : DeedsAt w v ds) (k many : Int) (hk0 : 0 ≤ k) (hk : k < 256) (hm0 : 0 ≤ many) (hm1 : many < 256) :
    Calls Try.prog 5 #[v, .int .u8 k, .int .u8 many] w fun e w' => e = .returned (.bool true) ∧ Fr [] w w' := by
  obtain ⟨i, hi⟩ : ∃ i : Nat, k % 8 = i := ⟨(k % 8).toNat, by omega⟩
  have hi8 : i < 8 := by omega
  go_enter Try.func5, Try.ntmps5
  go_wp2_with fail
  refine (shown_any w).mono ?_
  rintro e w1 ⟨rfl, f1⟩
  replace h := h.fr f1
  have hs1 := f1.size
  go_wp2_with fail
  refine (ran_any h).mono ?_
  rintro e w2 ⟨p, b, s0, rfl, h2, h8, f2, hp, hb⟩
  have F2 := f1.trans f2
  clear f1 f2 h
  go_wp2_with fail
  clear hi
  refine (len_any h2).mono ?_
  rintro e w3 ⟨rfl, f3⟩
  replace h2 := h2.fr f3 (by simp) (by simp)
  have F3 := F2.trans f3
  clear F2 f3
  have hm8 : s0.all.length ≤ 8 := by have := s0.allTo_le s0.l.length; unfold SS.all; omega
  generalize hI : s0.all = A at *
  generalize hmm : A.length = m at *
  have HI := hid hI
  have HM := hid hmm
  have H8 := hid h8
  clear hI hmm h8
  go_wp2_with fail
  go_loopw [10] (fun n wr => ∃ (j : Nat) (s : SS), j ≤ m ∧ n = .int .i64 ((m - j : Nat) : Int) ∧ SlotsAt wr p b s ∧ s.all = A ∧ s.l.length = 8 ∧ Clear s.q j ∧ Fr [] w wr) (fun n _ => (intOf n).toNat)
  case atStart => exact ⟨0, s0, Nat.zero_le _, rfl, h2, HI.out, H8.out, clear_start _, F3⟩
  case round =>
    clear h2 F3
    obtain ⟨j, s, hj, rfl, hs, hsa, hs8, hc, hfr⟩ := hrel
    have HSA := hid hsa
    have HS8 := hid hs8
    clear hsa hs8
    by_cases hlt : j < m
    · have hpos : (0 : Int) < ((m - j : Nat) : Int) := by omega
      go_wp2_with fail
      refine (victim_any hs).mono ?_
      rintro e w5 ⟨rfl, h5, f5⟩
      go_wp2_with fail
      go_roundw
      case rel =>
        refine ⟨j + 1, s.victim.1, by omega, ?_, h5, by rw [victim_all]; exact HSA.out, by rw [victim_len]; exact HS8.out, clear_victim hs.hand (by rw [HSA.out, HM.out]; omega) hc, hfr.weak f5 (by simp; omega)⟩
        congr 1; omega
      case measure => simp [intOf]; omega
    · obtain rfl : j = m := by omega
      have hclr : ∀ x ∈ s.q, x.2 = false := clear_all (by rw [q_len hs.hand, HSA.out, HM.out]; exact hc)
      have hw0 : Weak s.q i := fun x hx _ => hclr x hx
      obtain ⟨M, rfl⟩ := Int.eq_ofNat_of_zero_le hm0
      go_wp2_with fail
      refine (len_any hs).mono ?_
      rintro e w5 ⟨rfl, f5⟩
      have h5 := hs.fr f5 (by simp) (by simp)
      have F5 := hfr.trans f5
      have hlen : s.all.length = j := by rw [HSA.out, HM.out]
      rw [hlen]
      have HL := hid hlen
      clear hs hfr f5 hlen
      by_cases hj2 : j < 2
      · go_wp2_with fail
        go_ret
        exact ⟨rfl, F5⟩
      · go_wp2_with fail
        refine (touch_any h5 i).mono ?_
        rintro e w6 ⟨rfl, h6, f6⟩
        have F6 := F5.weak f6 (by simp; omega)
        clear f6 F5
        by_cases hu : s.used i = true
        · have HU := hid hu
          rw [hu]
          have hon := only_touch hu hw0
          have hal : (s.touch i).all = A := by rw [touch_keeps.1]; exact HSA.out
          have hle : (s.touch i).l.length = 8 := by rw [touch_keeps.2]; exact HS8.out
          have hus : (s.touch i).used i = true := by rw [used_of_all touch_keeps.1 touch_keeps.2]; exact HU.out
          have HON := hid hon
          have HAL := hid hal
          have HLE := hid hle
          have HUS := hid hus
          clear hu hon hal hle hus h5 hclr hw0
          go_wp2_with fail
          go_loopw [11] (fun n wr => ∃ (t : Nat) (s : SS), n = .int .i64 t ∧ t ≤ M ∧ SlotsAt wr p b s ∧ s.all = A ∧ s.used i = true ∧ Only s.q i ∧ Fr [] w wr) (fun n _ => M - (intOf n).toNat)
          case atStart => exact ⟨0, _, rfl, Nat.zero_le _, h6, HAL.out, HUS.out, HON.out, F6⟩
          case round =>
            clear h6 F6
            obtain ⟨t, s, rfl, htM, hs, hsa, hsu, hso, hfr⟩ := hrel
            have HSA2 := hid hsa
            have HSU2 := hid hsu
            clear hsa hsu
            by_cases htl : t < M
            · obtain ⟨hv1, hv2⟩ := only_victim hs.hand hso (by rw [HSA2.out, HM.out]; omega)
              have hv3 := SS.victim_pos hs.hand (by rw [HSA2.out, HM.out]; omega)
              have hua : s.victim.1.used i = true := by rw [used_of_all (victim_all s) (victim_len s)]; exact HSU2.out
              have hne : (((s.victim.2.1 : Nat) : Int) == (i : Int)) = false := beq_eq_false_iff_ne.2 (by omega)
              have HV3 := hid hv3
              have HUA := hid hua
              clear hv3 hua hv1
              go_wp2_with fail
              refine (victim_any hs).mono ?_
              rintro e w7 ⟨rfl, h7, f7⟩
              rw [HV3.out]
              go_wp2_with fail
              refine (touch_any h7 i).mono ?_
              rintro e w8 ⟨rfl, h8', f8⟩
              rw [HUA.out]
              go_wp2_with fail
              go_roundw
              case rel =>
                exact ⟨t + 1, _, by go_num, by omega, h8', by rw [touch_keeps.1, victim_all]; exact HSA2.out, by rw [used_of_all touch_keeps.1 touch_keeps.2]; exact HUA.out, only_touch HUA.out hv2, (hfr.weak f7 (by simp; omega)).weak f8 (by simp; omega)⟩
              case measure => simp [intOf]; omega
            · go_wp2_with fail
              go_ret
              exact ⟨rfl, hfr⟩
        · have hu : s.used i = false := by simpa using hu
          have HU := hid hu
          clear hu
          rw [HU.out]
          go_wp2_with fail
          go_ret
          exact ⟨rfl, F6⟩
end Go.Proofs.Ytenilmcndapaeaa
