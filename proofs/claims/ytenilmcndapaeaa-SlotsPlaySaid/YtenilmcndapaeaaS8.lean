import Derived.Test.YtenilmcndapaeaaS7
namespace Go.Proofs.Ytenilmcndapaeaa
open Go.RowKit

set_option maxRecDepth 100000 in
set_option maxHeartbeats 2000000 in
theorem rput_yes {w : World} {gx cx gu cu gt ct : Nat} {s : SS} (h : RefAt w gx cx gu cu gt ct s) (x : ByteArray) (k : Nat) (hk : k < s.l.length) (hu : s.l[k].used = false) (hmin : ∀ j (hj : j < k), s.l[j].used = true) :
    Calls Try.prog 25 #[refV gx cx gu cu gt ct s.l.length s.hand, .string x] w fun e w' => ∃ gx cx gu cu gt ct,
      e = .returned (.tuple #[refV gx cx gu cu gt ct s.l.length s.hand, .int .i64 k, .int .i64 0]) ∧ RefAt w' gx cx gu cu gt ct (s.at k ⟨x, true, false⟩) ∧ Fr [] w w' := by
  have hl := h.len
  have hu := hid hu
  have hmin := hid hmin
  have hf := ((Fr.refl [] w).alloc (.cells #[.slice (some ⟨gx, 0, none⟩) s.l.length cx, .slice (some ⟨gu, 0, none⟩) s.l.length cu, .slice (some ⟨gt, 0, none⟩) s.l.length ct, .int .i64 s.hand] 30)).alloc (.cells #[.slice none 0 0, .slice none 0 0, .slice none 0 0, .int .i64 0] 30)
  have h1 := h.fr hf (by simp) (by simp) (by simp)
  have hgx := h.x.lt gx rfl
  have hgu := h.u.lt gu rfl
  unfold refV
  go_enter Try.func25, Try.ntmps25
  go_wp2_with fail
  go_loop [7] (fun i => ∃ j : Nat, j ≤ k ∧ i = .int .i64 j) (fun i => s.l.length - (intOf i).toNat)
  case atStart => exact ⟨0, Nat.zero_le _, rfl⟩
  case round =>
    obtain ⟨j, hj, rfl⟩ := hrel
    have hjl : j < s.l.length := by omega
    obtain ⟨-, c1, -⟩ := h.slot hjl
    by_cases hjk : j < k
    · have hut := hmin.out j hjk
      rw [hut] at c1
      have hut := hid hut
      go_wp2_with fail
      go_round
      case rel => exact ⟨j + 1, by omega, by go_num⟩
      case measure => simp [intOf]; omega
    · obtain rfl : j = k := by omega
      rw [hu.out] at c1
      go_wp2_with fail
      refine (with_any h1 j hk x true false).mono ?_
      rintro e w2 ⟨gx', cx', gu', cu', gt', ct', rfl, h2, hf2⟩
      have hb4 := (Blk.new _ 30 _).fr hf2 (by simp)
      simp only [World.size_alloc] at hb4
      have hne1 : gx' ≠ w.heap.size + 1 := own_ne h2.x hb4 (by decide) gx' rfl
      have hne2 : gu' ≠ w.heap.size + 1 := own_ne h2.u hb4 (by decide) gu' rfl
      have hne3 : gt' ≠ w.heap.size + 1 := own_ne h2.t hb4 (by decide) gt' rfl
      obtain ⟨d0, d1, d2, d3, df⟩ := hb4.cells4
      unfold refV
      go_wp2
      refine ret_name ?_; intro w5 hw5
      obtain ⟨h5, f5⟩ := hb4.four hw5
      clear d0 d1 d2 d3 df hw5
      obtain ⟨d0, d1, d2, d3, -⟩ := h5.cells4
      exact bodyPost_ret (v := .tuple #[refV gx' cx' gu' cu' gt' ct' s.l.length s.hand, .int .i64 j, .int .i64 0]) (by simp [results, Try.results25, go_sem, d0, d1, d2, d3, refV]) rfl
        ⟨gx', cx', gu', cu', gt', ct', rfl, h2.fr f5 (by simpa using hne1) (by simpa using hne2) (by simpa using hne3), (hf.trans hf2).weak f5 (by simp)⟩

set_option maxRecDepth 100000 in
set_option maxHeartbeats 2000000 in
theorem rput_no {w : World} {gx cx gu cu gt ct : Nat} {s : SS} (h : RefAt w gx cx gu cu gt ct s) (x : ByteArray) (hmin : ∀ j (hj : j < s.l.length), s.l[j].used = true) :
    Calls Try.prog 25 #[refV gx cx gu cu gt ct s.l.length s.hand, .string x] w fun e w' =>
      e = .returned (.tuple #[refV gx cx gu cu gt ct s.l.length s.hand, .int .i64 0, .int .i64 5]) ∧ Fr [] w w' := by
  have hl := h.len
  have hmin := hid hmin
  have hf := ((Fr.refl [] w).alloc (.cells #[.slice (some ⟨gx, 0, none⟩) s.l.length cx, .slice (some ⟨gu, 0, none⟩) s.l.length cu, .slice (some ⟨gt, 0, none⟩) s.l.length ct, .int .i64 s.hand] 30)).alloc (.cells #[.slice none 0 0, .slice none 0 0, .slice none 0 0, .int .i64 0] 30)
  have hgx := h.x.lt gx rfl
  have hgu := h.u.lt gu rfl
  unfold refV
  go_enter Try.func25, Try.ntmps25
  go_wp2_with fail
  go_loop [7] (fun i => ∃ j : Nat, j ≤ s.l.length ∧ i = .int .i64 j) (fun i => s.l.length - (intOf i).toNat)
  case atStart => exact ⟨0, Nat.zero_le _, rfl⟩
  case round =>
    obtain ⟨j, hj, rfl⟩ := hrel
    by_cases hjk : j < s.l.length
    · obtain ⟨-, c1, -⟩ := h.slot hjk
      have hut := hmin.out j hjk
      rw [hut] at c1
      have hut := hid hut
      go_wp2_with fail
      go_round
      case rel => exact ⟨j + 1, by omega, by go_num⟩
      case measure => simp [intOf]; omega
    · go_wp2_with fail
      exact bodyPost_ret (v := .tuple #[refV gx cx gu cu gt ct s.l.length s.hand, .int .i64 0, .int .i64 5]) (by simp [results, Try.results25, go_sem, refV]) rfl ⟨rfl, ((Fr.refl _ _).alloc _).alloc _⟩

theorem SS.vic_succ {t : SS} (hh : t.hand < t.l.length) (k : Nat) : SS.vic (k + 1) t = if t.l[t.hand].used then
        if t.l[t.hand].touched then SS.vic k { l := t.l.set t.hand { t.l[t.hand] with touched := false }, hand := (t.hand + 1) % t.l.length }
        else ({ t with hand := (t.hand + 1) % t.l.length }, t.hand, true)
      else SS.vic k { t with hand := (t.hand + 1) % t.l.length } := by
  have hg : t.l[t.hand]? = some t.l[t.hand] := List.getElem?_eq_getElem hh
  rw [SS.vic]; simp only [hg]

theorem RefAt.turned {w : World} {gx cx gu cu gt ct : Nat} {s : SS} (h : RefAt w gx cx gu cu gt ct s) {n : Nat} (hn : n < s.l.length) : RefAt w gx cx gu cu gt ct { s with hand := n } :=
  ⟨h.x, h.u, h.t, hn, h.len⟩

set_option maxRecDepth 100000 in
set_option maxHeartbeats 2000000 in
theorem rvictim {w : World} {gx cx gu cu gt ct : Nat} {s : SS} (h : RefAt w gx cx gu cu gt ct s) (s' : SS) (i : Nat) (b : Bool) (hv : s.vic (2 * s.l.length) = (s', i, b)) :
    Calls Try.prog 30 #[refV gx cx gu cu gt ct s.l.length s.hand] w fun e w' => ∃ gx cx gu cu gt ct,
      e = .returned (.tuple #[refV gx cx gu cu gt ct s'.l.length s'.hand, .int .i64 i, .bool b]) ∧ RefAt w' gx cx gu cu gt ct s' ∧ Fr [] w w' := by
  have hl := h.len
  have hv := hid hv
  have hf := ((Fr.refl [] w).alloc (.cells #[.slice (some ⟨gx, 0, none⟩) s.l.length cx, .slice (some ⟨gu, 0, none⟩) s.l.length cu, .slice (some ⟨gt, 0, none⟩) s.l.length ct, .int .i64 s.hand] 30)).alloc (.cells #[.slice none 0 0, .slice none 0 0, .slice none 0 0, .int .i64 0] 30)
  have h1 := h.fr hf (by simp) (by simp) (by simp)
  have hgx := h.x.lt gx rfl
  have hgu := h.u.lt gu rfl
  have hgt := h.t.lt gt rfl
  generalize hn : s.l.length = n at *
  have hn := hid hn
  unfold refV
  go_enter Try.func30, Try.ntmps30
  go_wp2_with fail
  go_loopw [6, 7] (fun i' _ wr => ∃ (j : Nat) (t : SS) (gx cx gu cu gt ct : Nat), j ≤ 2 * n ∧ i' = .int .i64 j ∧ t.l.length = n ∧ t.vic (2 * n - j) = (s', i, b) ∧ RefAt wr gx cx gu cu gt ct t ∧
      Blk wr w.heap.size 30 [.slice (some ⟨gx, 0, none⟩) n cx, .slice (some ⟨gu, 0, none⟩) n cu, .slice (some ⟨gt, 0, none⟩) n ct, .int .i64 t.hand] ∧
      Blk wr (w.heap.size + 1) 30 [.slice none 0 0, .slice none 0 0, .slice none 0 0, .int .i64 0] ∧ Fr [] w wr) (fun i' _ _ => 2 * n - (intOf i').toNat)
  case atStart =>
    refine ⟨0, s, gx, cx, gu, cu, gt, ct, Nat.zero_le _, rfl, hn.out, by simpa using hv.out, h1, (Blk.new _ _ _).alloc _, ?_, hf⟩
    have := Blk.new (w.alloc (.cells #[.slice (some ⟨gx, 0, none⟩) n cx, .slice (some ⟨gu, 0, none⟩) n cu, .slice (some ⟨gt, 0, none⟩) n ct, .int .i64 s.hand] 30)) 30 [.slice none 0 0, .slice none 0 0, .slice none 0 0, .int .i64 0]
    simpa only [World.size_alloc] using this
  case round =>
    clear hf h1 hgx hgu hgt h hv hn
    obtain ⟨j, t, gx, cx, gu, cu, gt, ct, hj, rfl, htn, hvt, ht, hb, hb4, hfr⟩ := hrel
    obtain ⟨b0, b1, b2, b3, bf⟩ := hb.cells4
    have hhand := ht.hand
    have htn := hid htn
    have hvt := hid hvt
    rw [htn.out] at hhand
    by_cases hjk : j < 2 * n
    · have hm : (t.hand + 1) % n < n := Nat.mod_lt _ (by omega)
      have hhl : t.hand < t.l.length := ht.hand
      have hst := SS.vic_succ hhl (2 * n - j - 1)
      rw [show 2 * n - j - 1 + 1 = 2 * n - j by omega, hvt.out] at hst
      have hst := hid hst
      obtain ⟨-, c1, c2⟩ := ht.slot hhl
      have hne1 : gx ≠ w.heap.size := own_ne ht.x hb (by decide) gx rfl
      have hne2 : gu ≠ w.heap.size := own_ne ht.u hb (by decide) gu rfl
      have hne3 : gt ≠ w.heap.size := own_ne ht.t hb (by decide) gt rfl
      go_upto_region 7 with (fail)
      refine wp_name ?_; intro w1 hw1
      have f1 : Fr [w.heap.size] wr w1 := by rw [hw1]; exact fr_set
      have hb1 : Blk w1 w.heap.size 30 [.slice (some ⟨gx, 0, none⟩) n cx, .slice (some ⟨gu, 0, none⟩) n cu, .slice (some ⟨gt, 0, none⟩) n ct, .int .i64 ((t.hand + 1) % n : Nat)] := by
        rw [hw1]; simpa using hb.set 3 _
      have ht1 := (ht.turned (n := (t.hand + 1) % n) (by rw [htn.out]; exact hm)).fr f1 (by simpa using hne1) (by simpa using hne2) (by simpa using hne3)
      have hb41 := hb4.fr f1 (by simp)
      have F1 := hfr.weak f1 (by simp)
      clear b0 b1 b2 b3 bf c1 c2 hw1 hb hb4 hfr f1
      obtain ⟨b0, b1, b2, b3, bf⟩ := hb1.cells4
      obtain ⟨c0, c1, c2⟩ := ht1.slot hhl
      simp only at c0 c1 c2
      by_cases hu : t.l[t.hand].used = true
      · rw [hu] at c1
        by_cases htt : t.l[t.hand].touched = true
        · rw [htt] at c2
          have hst := hst.out
          rw [if_pos hu, if_pos htt] at hst
          have hu := hid hu
          have htt := hid htt
          have hst := hid hst
          go_upto_region 10 with (fail)
          go_still_tail 7, (by kernel_rfl)
          go_wp2_with fail
          have h1d := ht1.fr (Fr.drew (Fr.refl [] w1)) (by simp) (by simp) (by simp)
          have hw := with_any h1d t.hand hhl t.l[t.hand].x true false
          simp only [htn.out] at hw
          refine hw.mono ?_
          rintro e w2 ⟨gx', cx', gu', cu', gt', ct', rfl, h2, hf2⟩
          clear b0 b1 b2 b3 bf c0 c1 c2
          have hb2 := hb1.drew.fr hf2 (by simp)
          have hb42 := hb41.drew.fr hf2 (by simp)
          have hne1' : gx' ≠ w.heap.size := own_ne h2.x hb2 (by decide) gx' rfl
          have hne2' : gu' ≠ w.heap.size := own_ne h2.u hb2 (by decide) gu' rfl
          have hne3' : gt' ≠ w.heap.size := own_ne h2.t hb2 (by decide) gt' rfl
          obtain ⟨b0, b1, b2, b3, bf⟩ := hb2.cells4
          unfold refV
          go_wp2_with fail
          go_roundw
          case rel =>
            clear b0 b1 b2 b3 bf
            obtain ⟨hb3, f3⟩ := hb2.four rfl
            refine ⟨j + 1, _, gx', cx', gu', cu', gt', ct', by omega, by go_num, ?_, ?_, h2.fr f3 (by simpa using hne1') (by simpa using hne2') (by simpa using hne3'), hb3, hb42.fr f3 (by simp), (F1.drew.trans hf2).weak f3 (by simp)⟩
            · simp [SS.at, htn.out]
            · rw [show 2 * n - (j + 1) = 2 * n - j - 1 by omega]
              have e : ({ t.l[t.hand] with touched := false } : Sl) = ⟨t.l[t.hand].x, true, false⟩ := by rw [← hu.out]
              rw [hst.out, e]
              simp [SS.at, htn.out, hu.out, htt.out]
          case measure => simp [intOf]; omega
        · have htt : t.l[t.hand].touched = false := by simpa using htt
          rw [htt] at c2
          have hst := hst.out
          rw [if_pos hu, if_neg (by rw [htt]; simp)] at hst
          simp only [Prod.mk.injEq] at hst
          obtain ⟨rfl, rfl, rfl⟩ := hst
          have hu := hid hu
          have htt := hid htt
          obtain ⟨d0, d1, d2, d3, df⟩ := hb41.cells4
          go_wp2_with fail
          refine ret_name ?_; intro w5 hw5
          obtain ⟨h5, f5⟩ := hb41.four hw5
          clear b0 b1 b2 b3 bf d0 d1 d2 d3 df hw5
          obtain ⟨d0, d1, d2, d3, -⟩ := h5.cells4
          have hne1' : gx ≠ w.heap.size + 1 := own_ne ht1.x hb41 (by decide) gx rfl
          have hne2' : gu ≠ w.heap.size + 1 := own_ne ht1.u hb41 (by decide) gu rfl
          have hne3' : gt ≠ w.heap.size + 1 := own_ne ht1.t hb41 (by decide) gt rfl
          have htn := htn.out
          subst htn
          exact bodyPost_ret (v := .tuple #[refV gx cx gu cu gt ct t.l.length ((t.hand + 1) % t.l.length), .int .i64 t.hand, .bool true]) (by simp [results, Try.results30, go_sem, d0, d1, d2, d3, refV]) rfl
            ⟨gx, cx, gu, cu, gt, ct, rfl, ht1.fr f5 (by simpa using hne1') (by simpa using hne2') (by simpa using hne3'), F1.weak f5 (by simp)⟩
      · have hu : t.l[t.hand].used = false := by simpa using hu
        rw [hu] at c1
        have hst := hst.out
        rw [if_neg (by rw [hu]; simp)] at hst
        have hu := hid hu
        have hst := hid hst
        go_wp2_with fail
        go_roundw
        case rel =>
          refine ⟨j + 1, { t with hand := (t.hand + 1) % n }, gx, cx, gu, cu, gt, ct, by omega, by go_num, htn.out, ?_, ht1, hb1, hb41, F1⟩
          rw [show 2 * n - (j + 1) = 2 * n - j - 1 by omega]
          rw [hst.out, htn.out]
        case measure => simp [intOf]; omega
    · obtain rfl : j = 2 * n := by omega
      have hvt := hvt.out
      simp only [Nat.sub_self, SS.vic, Prod.mk.injEq] at hvt
      obtain ⟨rfl, rfl, rfl⟩ := hvt
      obtain ⟨d0, d1, d2, d3, df⟩ := hb4.cells4
      go_wp2_with fail
      refine ret_name ?_; intro w5 hw5
      obtain ⟨h5, f5⟩ := hb4.four hw5
      clear b0 b1 b2 b3 bf d0 d1 d2 d3 df hw5
      obtain ⟨d0, d1, d2, d3, -⟩ := h5.cells4
      have hne1' : gx ≠ w.heap.size + 1 := own_ne ht.x hb4 (by decide) gx rfl
      have hne2' : gu ≠ w.heap.size + 1 := own_ne ht.u hb4 (by decide) gu rfl
      have hne3' : gt ≠ w.heap.size + 1 := own_ne ht.t hb4 (by decide) gt rfl
      have htn := htn.out
      subst htn
      exact bodyPost_ret (v := .tuple #[refV gx cx gu cu gt ct t.l.length t.hand, .int .i64 (0 : Nat), .bool false]) (by simp [results, Try.results30, go_sem, d0, d1, d2, d3, refV]) rfl
        ⟨gx, cx, gu, cu, gt, ct, rfl, ht.fr f5 (by simpa using hne1') (by simpa using hne2') (by simpa using hne3'), hfr.weak f5 (by simp)⟩
end Go.Proofs.Ytenilmcndapaeaa
