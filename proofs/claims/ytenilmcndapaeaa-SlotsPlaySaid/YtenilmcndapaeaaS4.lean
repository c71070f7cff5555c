import Derived.Test.YtenilmcndapaeaaS3
namespace Go.Proofs.Ytenilmcndapaeaa
open Go.RowKit

set_option maxHeartbeats 400000 in
theorem put_nil (x : ByteArray) (w : World) :
    Calls Try.prog 21 #[.pointer none, .string x] w fun e w' => e = .returned (.tuple #[.int .i64 0, .int .i64 5]) ∧ w = w' := by
  go_enter Try.func21, Try.ntmps21
  go_wp2_with (go_at_call 17; refine (cap_nil _).mono ?_; rintro e w' ⟨rfl, rfl⟩)
  refine wp_loop_rounds 1 ?_; rw [rounds_succ]
  go_wp2
  go_ret2
  exact ⟨rfl, rfl⟩

set_option maxHeartbeats 1000000 in
theorem put_yes {w : World} {p b : Nat} {s : SS} (h : SlotsAt w p b s) (x : ByteArray) (k : Nat) (a : Sl) (hk : s.l[k]? = some a) (hu : a.used = false)
    (hmin : ∀ j, j < k → ∃ a, s.l[j]? = some a ∧ a.used = true) :
    Calls Try.prog 21 #[.pointer (some ⟨p, 0, none⟩), .string x] w fun e w' => e = .returned (.tuple #[.int .i64 k, .int .i64 0]) ∧ SlotsAt w' p b (s.at k ⟨x, true, false⟩) ∧ Fr [b] w w' := by
  have hl := h.len
  have hlt : k < s.l.length := (List.getElem?_eq_some_iff.1 hk).1
  obtain ⟨c0, c1, -, -⟩ := h.cells
  have hfin := hid (h.whole k a ⟨x, true, false⟩ hk)
  have hk := hid hk
  have hu := hid hu
  have hmin := hid hmin
  go_enter Try.func21, Try.ntmps21
  go_wp2_with (go_at_call 17; refine (cap_any h).mono ?_; rintro e w' ⟨rfl, rfl⟩)
  go_loop [9] (fun i => ∃ j : Nat, j ≤ k ∧ i = .int .i64 j) (fun i => s.l.length - (intOf i).toNat)
  case atStart => exact ⟨0, Nat.zero_le _, rfl⟩
  case round =>
    obtain ⟨j, hj, rfl⟩ := hrel
    by_cases hjk : j < k
    · obtain ⟨a', ha', hu'⟩ := hmin.out j hjk
      obtain ⟨-, c3, -, -⟩ := h.slot ha'
      rw [hu'] at c3
      have ha' := hid ha'
      have hu' := hid hu'
      go_wp2
      go_round
      case rel => exact ⟨j + 1, by omega, by go_num⟩
      case measure => simp [intOf]; omega
    · obtain rfl : j = k := by omega
      obtain ⟨c2, c3, c4, f⟩ := h.slot hk.out
      rw [hu.out] at c3
      go_wp2
      go_ret2
      exact ⟨rfl, hfin.out⟩

set_option maxHeartbeats 1000000 in
theorem put_no {w : World} {p b : Nat} {s : SS} (h : SlotsAt w p b s) (x : ByteArray) 
    (hmin : ∀ j, j < s.l.length → ∃ a, s.l[j]? = some a ∧ a.used = true) :
    Calls Try.prog 21 #[.pointer (some ⟨p, 0, none⟩), .string x] w fun e w' => e = .returned (.tuple #[.int .i64 0, .int .i64 5]) ∧ w = w' := by
  have hl := h.len
  obtain ⟨c0, c1, -, -⟩ := h.cells
  have hmin := hid hmin
  go_enter Try.func21, Try.ntmps21
  go_wp2_with (go_at_call 17; refine (cap_any h).mono ?_; rintro e w' ⟨rfl, rfl⟩)
  go_loop [9] (fun i => ∃ j : Nat, j ≤ s.l.length ∧ i = .int .i64 j) (fun i => s.l.length - (intOf i).toNat)
  case atStart => exact ⟨0, Nat.zero_le _, rfl⟩
  case round =>
    obtain ⟨j, hj, rfl⟩ := hrel
    by_cases hjk : j < s.l.length
    · obtain ⟨a', ha', hu'⟩ := hmin.out j hjk
      obtain ⟨-, c3, -, -⟩ := h.slot ha'
      rw [hu'] at c3
      have ha' := hid ha'
      have hu' := hid hu'
      go_wp2
      go_round
      case rel => exact ⟨j + 1, by omega, by go_num⟩
      case measure => simp [intOf]; omega
    · go_wp2
      go_ret2
      exact ⟨rfl, rfl⟩

theorem el56 : Elem Try.prog 56 67 (.agg #[.string ⟨#[]⟩, .bool false, .bool false]) 3 24 := ⟨by kernel_rfl, by kernel_rfl, rfl, by omega⟩

set_option maxHeartbeats 400000 in
theorem new_no (n : Int) (hn : n < 1 ∨ 64 < n) (w : World) :
    Calls Try.prog 10 #[.int .i64 n] w fun e w' => e = .returned (.pointer none) ∧ w = w' := by
  rcases hn with h | h
  · go_enter Try.func10, Try.ntmps10
    go_wp2
    go_ret
    exact ⟨rfl, rfl⟩
  · have h1 : ¬ n < 1 := by omega
    go_enter Try.func10, Try.ntmps10
    go_wp2
    go_ret
    exact ⟨rfl, rfl⟩

set_option maxHeartbeats 400000 in
theorem new_yes (n : Nat) (h1 : 1 ≤ n) (h2 : n ≤ 64) (w : World) :
    Calls Try.prog 10 #[.int .i64 n] w fun e w' => ∃ p b, e = .returned (.pointer (some ⟨p, 0, none⟩)) ∧ SlotsAt w' p b ⟨List.replicate n Sl.none, 0⟩ ∧ Fr [] w w' ∧ w.heap.size ≤ p ∧ w.heap.size ≤ b := by
  obtain ⟨i0, hi, hz0, hz1, hz2⟩ := info_parts el56.info
  go_enter Try.func10, Try.ntmps10
  go_wp2_with (at_make; refine wpList_make_full _ rfl _ _ 56 rfl 0 67 i0 _ 3 el56.ut hi hz0 hz1 .i64 .i64 n n n rfl rfl rfl rfl (by rw [hz2]; omega) (le_maxLen (by omega)) (Nat.zero_le _) ?_; intro w1 hown hgr)
  go_ret
  have hb := own_blk hown
  have hsz := hgr.size
  have hlt := hb.lt
  have e : (madeCells (Value.agg #[.string ⟨#[]⟩, .bool false, .bool false]).cells (n * 3)).toList = (List.replicate n Sl.none).flatMap encSl := made_flat encSl Sl.none _ rfl n
  rw [e] at hb
  refine ⟨_, _, rfl, ⟨?_, hb.alloc _, ?_, ?_⟩, ((Fr.of_grown hgr).mono (by simp)).alloc _, hsz, Nat.le_refl _⟩
  · have := Blk.new w1 58 [.slice (some ⟨w.heap.size, 0, none⟩) n n, .int .i64 0]
    simpa using this
  · simp; omega
  · simp; omega

/-- The hand goes on, k places at most. -/
def SS.vic : Nat → SS → SS × Nat × Bool
  | 0, s => (s, 0, false)
  | k + 1, s =>
    match s.l[s.hand]? with
    | none => (s, 0, false)
    | some a =>
      if a.used then
        if a.touched then SS.vic k { l := s.l.set s.hand { a with touched := false }, hand := (s.hand + 1) % s.l.length }
        else ({ s with hand := (s.hand + 1) % s.l.length }, s.hand, true)
      else SS.vic k { s with hand := (s.hand + 1) % s.l.length }

set_option maxHeartbeats 400000 in
theorem victim_nil (w : World) :
    Calls Try.prog 19 #[.pointer none] w fun e w' => e = .returned (.tuple #[.int .i64 0, .bool false]) ∧ w = w' := by
  go_enter Try.func19, Try.ntmps19
  go_wp2_with fail
  go_step3
  go_wp2_with (go_at_call 11; refine (len_nil _).mono ?_; rintro e w' ⟨rfl, rfl⟩)
  rw [Exit.noGoto_ret]
  go_ret2
  exact ⟨rfl, rfl⟩

set_option maxHeartbeats 400000 in
theorem victim_no {w : World} {p b : Nat} {s : SS} (h : SlotsAt w p b s) (hn : s.all.length = 0) :
    Calls Try.prog 19 #[.pointer (some ⟨p, 0, none⟩)] w fun e w' => e = .returned (.tuple #[.int .i64 0, .bool false]) ∧ Fr [] w w' := by
  go_enter Try.func19, Try.ntmps19
  go_wp2_with fail
  go_step3
  go_wp2_with fail
  refine (len_any h).mono ?_
  rintro e w1 ⟨rfl, hfr⟩
  rw [hn]
  go_wp2
  rw [Exit.noGoto_ret]
  go_ret2
  exact ⟨rfl, hfr⟩

theorem SlotsAt.turned {w : World} {p b : Nat} {s : SS} (h : SlotsAt w p b s) {n : Nat} (hn : n < s.l.length) (m : Int) (hm : m = n) :
    SlotsAt (w.setCell ⟨p, 1, none⟩ (.int .i64 m)) p b { s with hand := n } :=
  ⟨by have := h.own.set 1 (.int .i64 n); subst hm; simpa using this, h.row.other (h.own.ne h.row (by decide)).symm _, hn, h.len⟩

set_option maxHeartbeats 1000000 in
theorem victim_yes {w : World} {p b : Nat} {s s' : SS} (h : SlotsAt w p b s) (hn : 0 < s.all.length) (k i : Nat) (hv : s.vic k = (s', i, true)) :
    Calls Try.prog 19 #[.pointer (some ⟨p, 0, none⟩)] w fun e w' => e = .returned (.tuple #[.int .i64 i, .bool true]) ∧ SlotsAt w' p b s' ∧ Fr [p, b] w w' := by
  go_enter Try.func19, Try.ntmps19
  go_wp2_with fail
  go_step3
  have hv := hid hv
  go_wp2_with fail
  refine (len_any h).mono ?_
  rintro e w1 ⟨rfl, hfr⟩
  have hn : ((s.all.length : Int) == 0) = false := beq_eq_false_iff_ne.2 (by omega)
  have h1 := h.fr hfr (by simp) (by simp)
  go_wp2
  go_step3
  go_wp2
  go_loopg [4] k (fun k _ wr => ∃ t : SS, SlotsAt wr p b t ∧ Hid (t.vic k = (s', i, true)) ∧ Fr [p, b] w wr)
  case atStart => exact ⟨s, h1, hv, hfr.mono (by simp)⟩
  case round =>
    obtain ⟨t, ht, hvt, hft⟩ := hrel
    clear hv h1 hfr h hn
    obtain ⟨c0, c1, f0, f1⟩ := ht.cells
    have hl := ht.len
    have hh := ht.hand
    have hm : (t.hand + 1) % t.l.length < t.l.length := Nat.mod_lt _ (by omega)
    have h2 := ht.turned hm (((t.hand : Nat) + 1) % (t.l.length : Int)) (by simp)
    have hft2 : Fr [p, b] w (wr.setCell ⟨p, 1, none⟩ (.int .i64 (((t.hand : Nat) + 1) % (t.l.length : Int)))) := hft.setCell (by simp) _
    have hft2 := hid hft2
    cases gk with
    | zero => exact absurd hvt.out (by simp [SS.vic])
    | succ gk =>
    have hg : t.l[t.hand]? = some t.l[t.hand] := List.getElem?_eq_getElem hh
    have hstep : SS.vic (gk + 1) t = if t.l[t.hand].used then
        if t.l[t.hand].touched then SS.vic gk { l := t.l.set t.hand { t.l[t.hand] with touched := false }, hand := (t.hand + 1) % t.l.length }
        else ({ t with hand := (t.hand + 1) % t.l.length }, t.hand, true)
      else SS.vic gk { t with hand := (t.hand + 1) % t.l.length } := by
      rw [SS.vic]; simp only [hg]
    have hvA := hstep.symm.trans hvt.out
    clear hstep hvt
    cases hu : t.l[t.hand].used with
    | false =>
      have hu2 : SS.used { t with hand := (t.hand + 1) % t.l.length } t.hand = false := by simp [SS.used, hg, hu]
      simp only [hu, Bool.false_eq_true, if_false] at hvA
      have hvt := hid hvA
      clear hvA
      have hu2 := hid hu2
      have hg := hid hg
      have hu := hid hu
      go_wp2_with fail
      refine (at_no h2 _ hu2.out).mono ?_
      rintro e w2 ⟨rfl, rfl⟩
      go_wp2
      go_roundg gk
      case measure => omega
      case rel => exact ⟨_, h2, hvt, hft2.out⟩
    | true =>
      obtain ⟨-, -, c4, f4⟩ := h2.slot (i := t.hand) (a := t.l[t.hand]) hg
      cases htt : t.l[t.hand].touched with
      | true =>
        rw [htt] at c4
        rw [if_pos hu, if_pos htt] at hvA
        have hvt := hid hvA
        clear hvA
        have hfin := h2.at (k := t.hand) (a := { t.l[t.hand] with touched := false }) (w' := (wr.setCell ⟨p, 1, none⟩ (.int .i64 (((t.hand : Nat) + 1) % (t.l.length : Int)))).setCell ⟨b, t.hand * 3 + 2, none⟩ (.bool false))
          (by have := h2.row.set (t.hand * 3 + 2) (.bool false); rwa [flat_set encSl_len t.l t.hand 2 t.l[t.hand] { t.l[t.hand] with touched := false } _ (by omega) hg rfl] at this) ((Fr.refl _ _).setCell (by simp) _)
        have hfin := hid (And.intro hfin (hft2.out.setCell (p := ⟨b, t.hand * 3 + 2, none⟩) (by simp) (.bool false)))
        have hg := hid hg
        have hu := hid hu
        have htt := hid htt
        go_wp2_with fail
        refine (at_yes h2 _ _ hg.out hu.out).mono ?_
        rintro e w2 ⟨rfl, rfl⟩
        go_wp2
        go_roundg gk
        case measure => omega
        case rel => exact ⟨_, hfin.out.1, hvt, hfin.out.2⟩
      | false =>
        rw [htt] at c4
        simp only [hu, htt, if_true, Bool.false_eq_true, if_false, Prod.mk.injEq, and_true] at hvA
        obtain ⟨hv1, hv2⟩ := hvA
        subst hv1
        subst hv2
        have hg := hid hg
        have hu := hid hu
        have htt := hid htt
        go_wp2_with fail
        refine (at_yes h2 _ _ hg.out hu.out).mono ?_
        rintro e w2 ⟨rfl, rfl⟩
        go_wp2
        rw [Exit.noGoto_ret]
        go_ret2
        exact ⟨rfl, h2, hft2.out⟩
end Go.Proofs.Ytenilmcndapaeaa
