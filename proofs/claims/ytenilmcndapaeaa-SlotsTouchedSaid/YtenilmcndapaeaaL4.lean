import Derived.Test.YtenilmcndapaeaaL8
import Derived.Test.YtenilmcndapaeaaQ7
namespace Go.Proofs.Ytenilmcndapaeaa
open Go.RowKit

theorem victim_keeps {s : SS} : s.victim.1.all = s.all ∧ s.victim.1.l.length = s.l.length := ⟨victim_all s, victim_len s⟩
theorem all_lt {s : SS} {k : Nat} (h : k ∈ s.all) : k < s.l.length := (mem_all.1 h).1

set_option maxRecDepth 100000 in
set_option maxHeartbeats 4000000 in
theorem round_any {w : World} {v : Value} {ds : List Dd} (h : DeedsAt w v ds) :
    Calls Try.prog 4 #[v] w fun e w' => e = .returned (.bool true) ∧ Fr [] w w' := by
  go_enter Try.func4, Try.ntmps4
  go_wp2_with fail
  refine (shown_any w).mono ?_
  rintro e w1 ⟨rfl, f1⟩
  replace h := h.fr f1
  have hs1 := f1.size
  go_wp2_with fail
  refine (ran_any h).mono ?_
  rintro e w2 ⟨p, b, s0, rfl, h2, h8, f2, hp, hb⟩
  have F2 := f1.trans f2
  clear f1 f2 h
  go_wp2_with fail
  refine (len_any h2).mono ?_
  rintro e w3 ⟨rfl, f3⟩
  replace h2 := h2.fr f3 (by simp) (by simp)
  go_wp2_with fail
  refine (all_any h2).mono ?_
  rintro e w4 ⟨va, rfl, ha, f4⟩
  replace h2 := h2.fr f4 (by simp) (by simp)
  replace ha := own_base ha (Nat.zero_le _)
  have F4 := (F2.trans f3).trans f4
  clear F2 f3 f4
  have hm8 : s0.all.length ≤ 8 := by have := s0.allTo_le s0.l.length; unfold SS.all; omega
  have hall8 := hid (show ∀ x ∈ s0.all, x < 8 from fun x hx => by have := all_lt hx; omega)
  generalize hI : s0.all = A at *
  generalize hmm : A.length = m at *
  have hI := hid hI
  have hmm := hid hmm
  have h8 := hid h8
  have hlp := h2.own.lt
  have hlb := h2.row.lt
  go_wp2_with fail
  go_loopw [7] (fun i wr => ∃ (j : Nat) (s : SS), j ≤ m ∧ i = .int .i64 j ∧ SlotsAt wr p b s ∧ s.all = A ∧ s.l.length = 8 ∧ Clear s.q j ∧ wr.ownsRow 0 3 1 va m (ints A) ∧ Fr [] w wr) (fun i _ => m - (intOf i).toNat)
  case atStart => exact ⟨0, s0, Nat.zero_le _, rfl, h2, hI.out, h8.out, clear_start _, ha, F4⟩
  case round =>
    clear h2 ha F4
    obtain ⟨j, s, hj, rfl, hs, hsa, hs8, hc, ha, hfr⟩ := hrel
    have hsa := hid hsa
    have hs8 := hid hs8
    by_cases hlt : j < m
    · go_wp2_with fail
      refine (victim_any hs).mono ?_
      rintro e w5 ⟨rfl, h5, f5⟩
      have ha5 := own3_fr hs ha f5
      go_wp2_with fail
      go_roundw
      case rel =>
        exact ⟨j + 1, s.victim.1, by omega, by go_num, h5, by rw [victim_all]; exact hsa.out, by rw [victim_len]; exact hs8.out, clear_victim hs.hand (by rw [hsa.out, hmm.out]; omega) hc, ha5, hfr.weak f5 (by simp; omega)⟩
      case measure => simp [intOf]; omega
    · obtain rfl : j = m := by omega
      have hclr : ∀ x ∈ s.q, x.2 = false := clear_all (by rw [q_len hs.hand, hsa.out, hmm.out]; exact hc)
      -- the queue, nobody touched
      obtain ⟨I, hq⟩ : ∃ I : List Nat, I = s.q.map (·.1) := ⟨_, rfl⟩
      have hperm : I.Perm A := by rw [hq, ← hsa.out]; exact q_perm hs.hand
      have hIl : I.length = j := by rw [hperm.length_eq, hmm.out]
      have hq0 : s.q = ring I 0 := by
        rw [ring_zero, hq, List.map_map]
        conv => lhs; rw [← List.map_id s.q]
        apply List.map_congr_left
        intro x hx
        have := hclr x hx
        cases x; simp_all
      have hq0 := hid hq0
      have hIl := hid hIl
      have hperm := hid hperm
      clear hq hclr
      have hltp := hs.own.lt
      have hltb := hs.row.lt
      have hszw := hfr.size
      have hX0 : wr.heap.size ∉ [p, b] := by simp; omega
      generalize hX : wr.heap.size = X at hX0 hltp hltb hszw
      have hX := hid hX
      go_wp2_with fail
      go_loopw [9] (fun i wr2 => ∃ (t : Nat) (s : SS), t ≤ 3 * j ∧ i = .int .i64 t ∧ SlotsAt wr2 p b s ∧ s.all = A ∧ s.l.length = 8 ∧ s.q = ring I t ∧ Blk wr2 X 44 (seenC (told I t)) ∧ wr2.ownsRow 0 3 1 va j (ints A) ∧ Fr [] w wr2) (fun i _ => 3 * j - (intOf i).toNat)
      case atStart =>
        refine ⟨0, s, Nat.zero_le _, rfl, hs.fr ((Fr.refl [] wr).alloc _) (by simp) (by simp), hsa.out, hs8.out, hq0.out, ?_, own_fr ha ((Fr.refl [] wr).alloc _) (by simp), hfr.alloc _⟩
        have h0 : told I 0 = [] := rfl
        rw [h0, seen_nil, ← hX.out]
        exact Blk.new _ _ _
      case round =>
        clear hs hc ha hfr hq0 hX
        obtain ⟨t, s, ht, rfl, hs, hsa, hs8, hq, hseen, ha, hfr⟩ := hrel
        have hsa := hid hsa
        have hs8 := hid hs8
        have hq := hid hq
        by_cases htl : t < 3 * j
        · obtain ⟨hst1, hst2⟩ := ring_step hs.hand (by rw [hIl.out]; omega) hq.out
          have hv8 : I.getD (t % I.length) 0 < 8 := by
            have hr : t % I.length < I.length := Nat.mod_lt _ (by rw [hIl.out]; omega)
            have hmem : I[t % I.length] ∈ A := hperm.out.mem_iff.1 (List.getElem_mem hr)
            have := hall8.out _ hmem
            simpa [List.getD, hr] using this
          have hcn : (told I t).count (I.getD (t % I.length) 0) ≤ 24 := by
            have h1 := List.count_le_length (a := I.getD (t % I.length) 0) (l := told I t)
            rw [told_len] at h1; omega
          have hc := victim_any hs
          simp only [hst1] at hc
          have hts := hid (told_succ I t)
          generalize hvv : I.getD (t % I.length) 0 = x at *
          have hst1 := hid hst1
          have hst2 := hid hst2
          have hvv := hid hvv
          go_wp2_with fail
          refine hc.mono ?_
          clear hc
          rintro e w5 ⟨rfl, h5, f5⟩
          have ha5 := own3_fr hs ha f5
          have hseen5 := hseen.fr f5 hX0
          have hc0 := hseen5.cell (seen_get hv8)
          have hcf := hseen5.free x
          have hfin := hid (hseen5.set x (.int .i64 (((told I t).count x : Nat) + 1 : Int)))
          generalize hcc : (told I t).count x = cnt at *
          have hcc := hid hcc
          go_wp2_with fail
          go_roundw
          case rel =>
            have hb := hfin.out
            have hpX : p ≠ X := fun h' => hX0 (by simp [h'])
            have hbX : b ≠ X := fun h' => hX0 (by simp [h'])
            refine ⟨t + 1, s.victim.1, by omega, by go_num, h5.fr fr_set (by simpa using hpX) (by simpa using hbX), by rw [victim_all]; exact hsa.out, by rw [victim_len]; exact hs8.out, hst2.out, ?_, own_fr ha5 fr_set (by
              intro k hk; simp only [List.mem_singleton]; exact own_ne ha5 hseen5 (by decide) k hk), (hfr.weak f5 (by simp; omega)).weak fr_set (by simp; omega)⟩
            rw [hts.out, seen_snoc hv8, hcc.out]
            exact hb
          case measure => simp [intOf]; omega
        · obtain rfl : t = 3 * j := by omega
          go_wp2_with fail
          refine (victim_any hs).mono ?_
          rintro e w5 ⟨rfl, h5, f5⟩
          have ha5 := own3_fr hs ha f5
          have hseen5 := hseen.fr f5 hX0
          have F5 := hfr.weak f5 (by simp; omega)
          have hend : s.victim.2.2 = decide (0 < j) := by
            rcases Nat.eq_zero_or_pos j with h0 | h0
            · rw [SS.victim_zero hs.hand (by rw [hsa.out, hmm.out]; exact h0)]; simp [h0]
            · rw [SS.victim_pos hs.hand (by rw [hsa.out, hmm.out]; exact h0)]; simp [h0]
          rw [hend]
          have hend := hid hend
          have hthree := hid (show ∀ a ∈ A, (told I (3 * j)).count a = 3 from fun a ha' => by
            rw [← hIl.out]
            exact told_three (hperm.out.nodup_iff.2 (by rw [← hsa.out]; exact all_nodup s)) (hperm.out.mem_iff.2 ha'))
          clear hs ha hseen hfr f5
          go_wp2_with fail
          go_loop [14] (fun i => ∃ u : Nat, u ≤ j ∧ i = .int .i64 u) (fun i => j - (intOf i).toNat)
          case atStart => exact ⟨0, Nat.zero_le _, rfl⟩
          case round =>
            obtain ⟨u, hu, rfl⟩ := hrel
            by_cases hul : u < j
            · obtain ⟨g, c, rfl, -, -⟩ := own_form ha5 (by omega)
              have huA : u < A.length := by rw [hmm.out]; exact hul
              have hc := own_cell ha5 (j := u) (v := .int .i64 A[u]) (by simp [ints, huA])
              have h8u := hall8.out A[u] (List.getElem_mem huA)
              have hc2 := hseen5.cell (seen_get h8u)
              rw [hthree.out _ (List.getElem_mem huA)] at hc2
              generalize A[u] = z at *
              go_wp2_with fail
              go_round
              case rel => exact ⟨u + 1, by omega, by go_num⟩
              case measure => simp [intOf]; omega
            · go_wp2_with fail
              go_ret
              exact ⟨rfl, F5⟩
end Go.Proofs.Ytenilmcndapaeaa
