import Derived.Test.YthkpanggjbckkaaDoorQ0
import Derived.Test.YthkpanggjbckkaaDoorTab
namespace Go.Proofs.YthkpanggjbckkaaDoor.PN
open Go.RowKit Go.Shelf Go.Proofs.YthkpanggjbckkaaDoorW.PrintWords Go.Proofs.YthkpanggjbckkaaDoorW.PrintLast Go.Proofs.YthkpanggjbckkaaDoorW.PrintMore

theorem fold_f {s : ByteArray} (h : s.size ≤ 140737488351232) : name_Fold.f s = some (bstr (foldL s.data.toList)) := by
  unfold name_Fold.f; rw [if_pos h]
theorem lowU_lowU (c : UInt8) : lowU (lowU c) = lowU c := by
  rw [u8_eq, lowU_nat (lowU c), lowU_nat c]
  by_cases h : 65 ≤ c.toNat ∧ c.toNat ≤ 90
  · rw [if_pos h, if_neg (by omega)]
  · rw [if_neg h, if_neg h]
theorem fold_fold (l : List UInt8) : foldL (foldL l) = foldL l := by
  unfold foldL
  rw [List.map_map]
  congr 1
  funext c
  exact lowU_lowU c
theorem fold_size (s : ByteArray) : (bstr (foldL s.data.toList)).size = s.size := by
  rw [bstr_size, foldL, List.length_map, data_length]

set_option maxRecDepth 100000 in
set_option maxHeartbeats 4000000 in
theorem NameFolds_walk (s : ByteArray) (w : World) (hT : TabW w) (w0 : s.size ≤ 140737488351232) :
    Calls Tryd.prog 3 #[.string s] w fun e w' => e = .returned (.bool true) ∧ Below w.heap.size w w' := by
  clear hT
  go_enter Tryd.func3, Tryd.ntmps3
  go_wp2_with fail
  refine (derricklaw02_shown.calls true _ shown_f).mono ?_
  rintro e w1 ⟨rfl, hB1⟩
  have hz1 := hB1.size
  by_cases hs : s.size ≤ 1000
  · have b1 : decide ((1000 : Int) < (s.size : Int)) = false := decide_eq_false (by omega)
    have hfs := fold_size s
    obtain ⟨f, hf⟩ : ∃ f, bstr (foldL s.data.toList) = f := ⟨_, rfl⟩
    have hff : name_Fold.f s = some f := by rw [fold_f w0, hf]
    rw [hf] at hfs
    have hff2 : name_Fold.f f = some f := by
      rw [fold_f (by omega), ← hf]
      congr 2
      exact fold_fold _
    have hfi : ∀ k (h : k < s.size) (h' : k < f.size), f[k] = lowU s[k] := by
      subst hf
      intro k h h'
      simp [bstr, foldL, ByteArray.getElem_eq_getElem_data]
    have Hff := hid hff
    have Hff2 := hid hff2
    have Hf := hid hf
    have Hfi := hid hfi
    have Hfs := hid hfs
    clear hff hff2 hf hfi hfs
    go_wp2_with fail
    refine (name_Fold.calls s f _ Hff.out).mono ?_
    rintro e w2 ⟨rfl, hB2⟩
    have hz2 := hB2.size
    have b2 : ((f.size : Int) != (s.size : Int)) = false := by rw [Hfs.out]; simp
    have b3 : (f.size != s.size) = false := by rw [Hfs.out]; simp
    have b4 : (f.size == s.size) = true := by rw [Hfs.out]; simp
    go_wp2_with fail
    refine (name_Fold.calls f f _ Hff2.out).mono ?_
    rintro e w3 ⟨rfl, hB3⟩
    have hz3 := hB3.size
    have hBB : Below w.heap.size w w3 := (hB1.trans (hB2.mono hz1)).trans (hB3.mono (by omega))
    go_wp2
    go_loopw [5] (fun i wr => ∃ k : Nat, i = .int .i64 k ∧ k ≤ s.size ∧ Below w.heap.size w wr) (fun i _ => s.size - (intOf i).toNat)
    case atStart => exact ⟨0, rfl, Nat.zero_le _, hBB⟩
    case round =>
      obtain ⟨k, rfl, hk, hB⟩ := hrel
      clear b2 b3 b4 hBB
      have hzr := hB.size
      by_cases hlt : k < s.size
      · have hlf : k < f.size := by rw [Hfs.out]; exact hlt
        have hik := Hfi.out k hlt hlf
        have hln := lowU_nat s[k]
        rw [← hik] at hln
        have hc := s[k].toNat_lt
        have d0 : decide ((k : Int) < (s.size : Int)) = true := decide_eq_true (by omega)
        clear hik
        obtain ⟨c, hx⟩ : ∃ c : Int, ((s[k]'hlt).toNat : Int) = c := ⟨_, rfl⟩
        obtain ⟨d, hy⟩ : ∃ d : Int, ((f[k]'hlf).toNat : Int) = d := ⟨_, rfl⟩
        have hln' : d = if 65 ≤ c ∧ c ≤ 90 then c + 32 else c := by
          rw [← hx, ← hy, hln]
          split <;> split <;> omega
        have hc0 : 0 ≤ c ∧ c ≤ 255 := by omega
        clear hln hc
        have Hln := hid hln'
        clear hln'
        by_cases h1 : 65 ≤ c ∧ c ≤ 90
        · have e3 : (d != c + 32) = false := by rw [Hln.out, if_pos h1]; simp
          have e1 : decide (65 ≤ c) = true := decide_eq_true h1.1
          have e2 : decide (c ≤ 90) = true := decide_eq_true h1.2
          have hw1 : IntKind.u8.wrap (c + 32) = c + 32 := IntWalk.u8_in _ (by omega)
          have hw2 : (c + 32) % 256 = c + 32 := by omega
          clear h1 hc0
          go_wp2
          go_quiet (fail)
          go_wp2
          go_roundw
          case rel => exact ⟨k + 1, by go_num, by omega, pw_below_drewN hB _⟩
          case measure => simp [intOf]; omega
        · have e3 : (d != c) = false := by rw [Hln.out, if_neg h1]; simp
          by_cases h2 : 65 ≤ c
          · have e1 : decide (65 ≤ c) = true := decide_eq_true h2
            have e2 : decide (c ≤ 90) = false := decide_eq_false (by omega)
            clear h1 h2 hc0
            go_wp2
            go_quiet (fail)
            go_wp2
            go_roundw
            case rel => exact ⟨k + 1, by go_num, by omega, pw_below_drewN hB _⟩
            case measure => simp [intOf]; omega
          · have e1 : decide (65 ≤ c) = false := decide_eq_false h2
            clear h1 h2 hc0
            go_wp2
            go_quiet (fail)
            go_wp2
            go_roundw
            case rel => exact ⟨k + 1, by go_num, by omega, pw_below_drewN hB _⟩
            case measure => simp [intOf]; omega
      · have d0 : decide ((k : Int) < (s.size : Int)) = false := decide_eq_false (by omega)
        rcases hm : mayB s with _ | _
        · have hmf : name_May.f s = some false := by rw [may_f (by omega), hm]
          go_wp2_with fail
          refine (name_May.calls s false _ hmf).mono ?_
          rintro e w4 ⟨rfl, hB4⟩
          go_wp2
          go_ret
          exact ⟨rfl, hB.trans (hB4.mono (by omega))⟩
        · have hmf : name_May.f s = some true := by rw [may_f (by omega), hm]
          obtain ⟨-, -, h3⟩ := may_iff.1 hm
          have hfe : f = s := by rw [← Hf.out, h3, bstr_data]
          have e4 : (f.toList == s.toList) = true := by rw [hfe]; simp
          clear hfe
          go_wp2_with fail
          refine (name_May.calls s true _ hmf).mono ?_
          rintro e w4 ⟨rfl, hB4⟩
          go_wp2
          go_ret
          exact ⟨rfl, hB.trans (hB4.mono (by omega))⟩
  · have b1 : decide ((1000 : Int) < (s.size : Int)) = true := decide_eq_true (by omega)
    go_wp2
    go_ret
    exact ⟨rfl, hB1⟩
end Go.Proofs.YthkpanggjbckkaaDoor.PN
