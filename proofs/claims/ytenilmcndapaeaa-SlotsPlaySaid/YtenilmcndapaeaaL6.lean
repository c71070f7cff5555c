import Derived.Test.YtenilmcndapaeaaQ4
import Derived.Test.YtenilmcndapaeaaQ5
namespace Go.Proofs.Ytenilmcndapaeaa
open Go.RowKit

theorem own3_fr {w w' : World} {p b : Nat} {s : SS} {v : Value} {n : Nat} {xs : List Value} {B : Nat} (h : SlotsAt w p b s) (ho : w.ownsRow B 3 1 v n xs) (hf : Fr [p, b] w w') : w'.ownsRow B 3 1 v n xs :=
  own_fr ho hf (fun k hk => by simp only [List.mem_cons, List.not_mem_nil, or_false, not_or]; exact ⟨own_ne ho h.own (by decide) k hk, own_ne ho h.row (by decide) k hk⟩)

set_option maxRecDepth 100000 in
set_option maxHeartbeats 4000000 in
theorem putlaw_any {w : World} {v : Value} {ds : List Dd} (h : DeedsAt w v ds) (x : ByteArray) :
    Calls Try.prog 6 #[v, .string x] w fun e w' => e = .returned (.bool true) ∧ Fr [] w w' := by
  go_enter Try.func6, Try.ntmps6
  go_wp2_with fail
  refine (shown_any w).mono ?_
  rintro e w1 ⟨rfl, f1⟩
  have h1 : DeedsAt w1 v ds := by
    rcases h with h | ⟨b, off, c, h1, h2, h3, h4, h5⟩
    · exact .inl h
    · exact .inr ⟨b, off, c, h1, h2, h3, Nat.lt_of_lt_of_le h4 f1.size, fun i hi => ⟨f1.cell (h5 i hi).1 (by simp), f1.cell (h5 i hi).2.1 (by simp), f1.cell (h5 i hi).2.2 (by simp)⟩⟩
  go_wp2_with fail
  refine (ran_any h1).mono ?_
  rintro e w2 ⟨p, b, s, rfl, h2, h8, f2, hp, hb⟩
  clear h h1
  have F2 := f1.trans f2
  have hsz1 := f1.size
  go_wp2_with fail
  refine (all_any h2).mono ?_
  rintro e w3 ⟨va, rfl, ha, f3⟩
  have F3 := F2.trans f3
  replace ha := own_base ha (Nat.zero_le _)
  replace h2 := h2.fr f3 (by simp) (by simp)
  clear f1 f2 f3 F2
  go_wp2_with fail
  cases hf : s.l.findIdx? (fun a => !a.used) with
  | none =>
    have hfull := findIdx_none hf
    have hlen := hid ((full_len hfull).trans h8)
    have h8 := hid h8
    have hf := hid hf
    refine (put_no h2 x (fun j hj => ⟨s.l[j], List.getElem?_eq_getElem hj, hfull j hj⟩)).mono ?_
    rintro e w4 ⟨rfl, rfl⟩
    clear hfull
    obtain ⟨g, c, rfl, -, -⟩ := own_form ha (by rw [hlen.out]; omega)
    rw [hlen.out]
    go_wp2_with fail
    go_ret
    exact ⟨rfl, F3⟩
  | some k =>
    obtain ⟨hk, hu, hmin⟩ := findIdx_some hf
    have hf := hid hf
    refine (put_yes h2 x k s.l[k] (List.getElem?_eq_getElem hk) hu (fun j hj => ⟨s.l[j], List.getElem?_eq_getElem (by omega), hmin j hj⟩)).mono ?_
    rintro e w4 ⟨rfl, h4, f4⟩
    have ha4 := own3_fr h2 ha (f4.mono (by simp))
    have F4 := F3.weak f4 (by simp; omega)
    have hnot := hid (put_notin hk hu)
    have hl1 := hid (put_all_len (x := x) hk hu)
    have hgone := hid (put_gone (x := x) hk hu)
    have hagain := hid (put_again (x := x) hk hu hmin)
    have hL : s.all.length ≤ 64 := by have := s.allTo_le s.l.length; have := h2.len; unfold SS.all; omega
    have hk64 : k < 64 := by have := h2.len; omega
    have hu := hid hu
    have hmin := hid hmin
    have h8 := hid h8
    clear f4 F3 ha h2
    go_wp2_with fail
    go_loop [10] (fun i => ∃ j : Nat, j ≤ s.all.length ∧ i = .int .i64 j) (fun i => s.all.length - (intOf i).toNat)
    case atStart => exact ⟨0, Nat.zero_le _, rfl⟩
    case round =>
      obtain ⟨j, hj, rfl⟩ := hrel
      by_cases hlt : j < s.all.length
      · obtain ⟨g, c, rfl, -, -⟩ := own_form ha4 (by omega)
        have hc := own_cell ha4 (j := j) (v := .int .i64 s.all[j]) (by simp [ints, hlt])
        have hne : ((s.all[j] : Int) == (k : Int)) = false := by
          rw [beq_eq_false_iff_ne]
          intro h'
          have : s.all[j] = k := by omega
          exact hnot.out (this ▸ List.getElem_mem hlt)
        go_wp2_with fail
        go_round
        case rel => exact ⟨j + 1, by omega, by go_num⟩
        case measure => simp [intOf]; omega
      · have hlenv : ∃ ao c, va = .slice ao s.all.length c := by
          rcases ha4.2 with ⟨h', h''⟩ | ⟨g, c, cur, h', -⟩
          · exact ⟨none, 0, by rw [h', h'']⟩
          · exact ⟨_, c, h'⟩
        obtain ⟨ao, c, rfl⟩ := hlenv
        go_wp2_with fail
        have hk1 : (s.at k ⟨x, true, false⟩).l[k]? = some ⟨x, true, false⟩ := by simp [SS.at, hk]
        refine (get_yes h4 k _ hk1 rfl).mono ?_
        rintro e w5 ⟨rfl, rfl⟩
        go_wp2_with fail
        refine (len_any h4).mono ?_
        rintro e w5 ⟨rfl, f5⟩
        rw [hl1.out]
        have h5 := h4.fr f5 (by simp) (by simp)
        have ha5 := own_fr ha4 f5 (by simp)
        have F5 := F4.weak f5 (by simp)
        clear h4 ha4 F4 f5
        go_wp2_with fail
        refine (free_yes h5 k _ hk1 rfl).mono ?_
        rintro e w6 ⟨rfl, h6, f6⟩
        have ha6 := own3_fr h5 ha5 (f6.mono (by simp))
        have F6 := F5.weak f6 (by simp; omega)
        have hk2 : ((s.at k ⟨x, true, false⟩).at k Sl.none).used k = false := by simp [SS.used, SS.at, hk, Sl.none]
        have hk2 := hid hk2
        have hk1 := hid hk1
        clear h5 ha5 F5 f6
        go_wp2_with fail
        refine (get_no h6 k hk2.out).mono ?_
        rintro e w7 ⟨rfl, rfl⟩
        go_wp2_with fail
        refine (free_no h6 k hk2.out).mono ?_
        rintro e w7 ⟨rfl, rfl⟩
        go_wp2_with fail
        obtain ⟨hk', hu', hmin'⟩ := findIdx_some hagain.out
        refine (put_yes h6 x k _ (List.getElem?_eq_getElem hk') hu' (fun j hj => ⟨_, List.getElem?_eq_getElem (by omega), hmin' j hj⟩)).mono ?_
        rintro e w7 ⟨rfl, h7, f7⟩
        have ha7 := own3_fr h6 ha6 (f7.mono (by simp))
        have F7 := F6.weak f7 (by simp; omega)
        have hu' := hid hu'
        have hmin' := hid hmin'
        clear h6 ha6 F6 f7
        go_wp2_with fail
        have hk3 : (((s.at k ⟨x, true, false⟩).at k Sl.none).at k ⟨x, true, false⟩).l[k]? = some ⟨x, true, false⟩ := by simp [SS.at, hk]
        refine (free_yes h7 k _ hk3 rfl).mono ?_
        rintro e w8 ⟨rfl, h8', f8⟩
        have ha8 := own3_fr h7 ha7 (f8.mono (by simp))
        have F8 := F7.weak f8 (by simp; omega)
        have hk3 := hid hk3
        clear h7 ha7 F7 f8
        go_wp2_with fail
        refine (all_any h8').mono ?_
        rintro e w9 ⟨vb, rfl, hb9, f9⟩
        have e9 : ((((s.at k ⟨x, true, false⟩).at k Sl.none).at k ⟨x, true, false⟩).at k Sl.none).all = s.all := by
          rw [← hgone.out]; simp [SS.at]
        rw [e9] at hb9
        have e9 := hid e9
        have ha9 := own_fr ha8 f9 (by simp)
        have F9 := F8.weak f9 (by simp)
        go_wp2_with fail
        refine (ints_same hb9 ha9 (by omega)).mono ?_
        rintro e w10 ⟨rfl, f10⟩
        go_wp2_with fail
        go_ret
        exact ⟨rfl, F9.trans f10⟩
end Go.Proofs.Ytenilmcndapaeaa
