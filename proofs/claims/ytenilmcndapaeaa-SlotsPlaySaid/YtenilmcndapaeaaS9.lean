import Derived.Test.YtenilmcndapaeaaS8
namespace Go.Proofs.Ytenilmcndapaeaa
open Go.RowKit

/-- Two lists of numbers that are owned. -/
theorem ints_inj : ∀ (a b : List Nat), ints a = ints b → a = b := by
  intro a
  induction a with
  | nil => intro b h; cases b <;> simp_all [ints]
  | cons x a ih =>
    intro b h
    cases b with
    | nil => simp [ints] at h
    | cons y b =>
      simp only [ints, List.map_cons, List.cons.injEq, Value.int.injEq, true_and] at h
      rw [ih b h.2]
      congr 1
      omega

set_option maxRecDepth 100000 in
set_option maxHeartbeats 1000000 in
theorem ints_same {w : World} {v1 v2 : Value} {l : List Nat} {base base' : Nat} (h1 : w.ownsRow base 3 1 v1 l.length (ints l)) (h2 : w.ownsRow base' 3 1 v2 l.length (ints l)) (hl : l.length ≤ 1000) :
    Calls Try.prog 14 #[v1, v2] w fun e w' => e = .returned (.bool true) ∧ Fr [] w w' := by
  rcases Nat.eq_zero_or_pos l.length with h0 | hp
  · rcases h1.2 with ⟨rfl, -⟩ | ⟨g1, c1, -, rfl, -⟩ <;> rcases h2.2 with ⟨rfl, -⟩ | ⟨g2, c2, -, rfl, -⟩
    all_goals
      try rw [h0]
      go_enter Try.func14, Try.ntmps14
      go_wp2_with fail
      refine wp_loop_rounds 1 ?_; rw [rounds_succ]
      go_wp2
      go_ret
      exact ⟨rfl, Fr.refl _ _⟩
  · obtain ⟨g1, c1, rfl, -, -⟩ := own_form h1 hp
    obtain ⟨g2, c2, rfl, -, -⟩ := own_form h2 hp
    go_enter Try.func14, Try.ntmps14
    go_wp2_with fail
    go_loopw [5] (fun i wr => ∃ j : Nat, j ≤ l.length ∧ i = .int .i64 j ∧ Fr [] w wr) (fun i _ => l.length - (intOf i).toNat)
    case atStart => exact ⟨0, Nat.zero_le _, rfl, Fr.refl _ _⟩
    case round =>
      obtain ⟨j, hj, rfl, hf⟩ := hrel
      by_cases hjl : j < l.length
      · have k1 := own_cell (own_fr h1 hf (by simp)) (j := j) (v := .int .i64 l[j]) (by simp [ints, hjl])
        have k2 := own_cell (own_fr h2 hf (by simp)) (j := j) (v := .int .i64 l[j]) (by simp [ints, hjl])
        go_wp2_with fail
        go_quiet (fail)
        go_wp2_with fail
        go_roundw
        case rel => exact ⟨j + 1, by omega, by go_num, hf.drewN _⟩
        case measure => simp [intOf]; omega
      · go_wp2_with fail
        go_ret
        exact ⟨rfl, hf⟩

theorem SS.usOf_get {s : SS} {k : Nat} (hk : k < s.l.length) : (usOf s)[k]? = some (.bool s.l[k].used) := by simp [usOf, hk]

set_option maxRecDepth 100000 in
set_option maxHeartbeats 1000000 in
theorem rall_any {w : World} {gx cx gu cu gt ct : Nat} {s : SS} (h : RefAt w gx cx gu cu gt ct s) :
    Calls Try.prog 16 #[refV gx cx gu cu gt ct s.l.length s.hand] w (AllTold w s.all) := by
  have hl := h.len
  have hf := (Fr.refl [] w).alloc (.cells #[.slice (some ⟨gx, 0, none⟩) s.l.length cx, .slice (some ⟨gu, 0, none⟩) s.l.length cu, .slice (some ⟨gt, 0, none⟩) s.l.length ct, .int .i64 s.hand] 30)
  unfold refV
  go_enter Try.func16, Try.ntmps16
  go_wp2_with fail
  go_loopw [3, 4] (fun v i wr => ∃ k : Nat, k ≤ s.l.length ∧ i = .int .i64 k ∧ wr.ownsRow w.heap.size 3 1 v (s.allTo k).length (ints (s.allTo k)) ∧
    Blk wr w.heap.size 30 [.slice (some ⟨gx, 0, none⟩) s.l.length cx, .slice (some ⟨gu, 0, none⟩) s.l.length cu, .slice (some ⟨gt, 0, none⟩) s.l.length ct, .int .i64 s.hand] ∧ Fr [] w wr) (fun _ i _ => s.l.length - (intOf i).toNat)
  case atStart => exact ⟨0, Nat.zero_le _, rfl, World.ownsRow_nil _ _ _ _, Blk.new _ _ _, hf⟩
  case round =>
    obtain ⟨k, hk, rfl, hown, hb, hfr⟩ := hrel
    have h' := h.fr hfr (by simp) (by simp) (by simp)
    have hsz := hfr.size
    have hal := s.allTo_le k
    obtain ⟨c0, c1, -, -, -⟩ := hb.cells4
    by_cases hlt : k < s.l.length
    · obtain ⟨-, c3, -⟩ := h'.slot hlt
      have hsucc := hid (s.allTo_succ k)
      by_cases hu : s.l[k].used = true
      · rw [hu] at c3
        have hu := hid hu
        go_wp2_with (at_builtin; refine wpList_app1 el37 rfl (.tmp 17) (.tmp 19) rfl hown rfl [.int .i64 k] rfl rfl (by simp [Value.oneCell']) (le_maxLen (by omega)) (by omega) (by omega) ?_; intro v' w1 hown' hfr' hne)
        go_roundw
        case rel =>
          have hnb : w.heap.size ∉ u3.ownBlock.toList := by
            intro hx
            exact own_ne hown hb (by decide) w.heap.size (by simpa using hx) rfl
          refine ⟨k + 1, by omega, by go_num, ?_, hb.fr hfr' hnb, hfr.weak hfr' ?_⟩
          · have e : s.allTo (k + 1) = s.allTo k ++ [k] := by rw [hsucc.out]; simp [hlt, hu.out]
            rw [e]; simpa [ints] using hown'
          · intro x hx; have := hown.lt x (by simpa using hx); omega
        case measure => simp [intOf]; omega
      · have hu : s.l[k].used = false := by simpa using hu
        rw [hu] at c3
        have hu := hid hu
        go_wp2
        go_roundw
        case rel =>
          refine ⟨k + 1, by omega, by go_num, ?_, hb, hfr⟩
          have e : s.allTo (k + 1) = s.allTo k := by rw [hsucc.out]; simp [hlt, hu.out]
          rw [e]; exact hown
        case measure => simp [intOf]; omega
    · have e : k = s.l.length := by omega
      subst e
      go_wp2
      go_ret
      exact ⟨_, rfl, hown, hfr⟩

def SS.fresh (n : Nat) : SS := ⟨List.replicate n Sl.none, 0⟩
set_option maxRecDepth 100000 in
set_option maxHeartbeats 1000000 in
theorem rnew_any (n : Nat) (h1 : 1 ≤ n) (h2 : n ≤ 64) (w : World) :
    Calls Try.prog 12 #[.int .i64 n] w fun e w' => ∃ gx cx gu cu gt ct, e = .returned (refV gx cx gu cu gt ct n 0) ∧ RefAt w' gx cx gu cu gt ct (SS.fresh n) ∧ Fr [] w w' ∧ w.heap.size ≤ gx ∧ w.heap.size ≤ gu ∧ w.heap.size ≤ gt := by
  go_enter Try.func12, Try.ntmps12
  go_wp2_with fail
  go_loopw [4] (fun i wr => ∃ (k : Nat) (vx vu vt : Value), k ≤ n ∧ i = .int .i64 k ∧
      Sep wr [aOwn w.heap.size 9 1 vx k (List.replicate k (.string ⟨#[]⟩)), aOwn w.heap.size 4 1 vu k (List.replicate k (.bool false)), aOwn w.heap.size 4 1 vt k (List.replicate k (.bool false)),
        aBlk (w.heap.size + 1) 30 [vx, vu, vt, .int .i64 0], aBlk w.heap.size 30 [.slice none 0 0, .slice none 0 0, .slice none 0 0, .int .i64 0]] ∧ Fr [] w wr) (fun i _ => n - (intOf i).toNat)
  case atStart =>
    refine ⟨0, .slice none 0 0, .slice none 0 0, .slice none 0 0, Nat.zero_le _, rfl, ?_, ((Fr.refl _ _).alloc _).alloc _⟩
    refine ⟨?_, ?_⟩
    · intro A hA
      simp only [List.mem_cons, List.not_mem_nil, or_false] at hA
      rcases hA with rfl | rfl | rfl | rfl | rfl
      · exact World.ownsRow_nil _ _ _ _
      · exact World.ownsRow_nil _ _ _ _
      · exact World.ownsRow_nil _ _ _ _
      · have := Blk.new (w.alloc (.cells #[.slice none 0 0, .slice none 0 0, .slice none 0 0, .int .i64 0] 30)) 30 [.slice none 0 0, .slice none 0 0, .slice none 0 0, .int .i64 0]
        show Blk _ _ _ _
        simpa only [World.size_alloc] using this
      · exact (Blk.new _ _ _).alloc _
    · simp [aOwn, aBlk, Value.ownBlock]
  case round =>
    obtain ⟨k, vx, vu, vt, hk, rfl, hs, hfr⟩ := hrel
    have hsz := hfr.size
    by_cases hlt : k < n
    · -- the first list
      have o0 := hs.get 0 rfl
      have c0 := (hs.get 3 rfl : Blk _ _ _ _).cell (i := 0) rfl
      go_upto_region 6 with (at_builtin; go_loud (refine wpList_app1s el27 rfl (.tmp 12) (.tmp 13) rfl o0 rfl [.string ⟨#[]⟩] rfl rfl (by simp [Value.oneCell']) (by omega) (by omega) (by omega) ?_); intro gx cx wa oa fa ga gb gc; have sa := hs.upd 0 rfl fa (fun x hx => .inl hx) (aOwn w.heap.size 9 1 _ _ _) oa (own_fp gc); have ca := (sa.get 3 rfl : Blk _ _ _ _).cell (i := 0) rfl; have cf := (sa.get 3 rfl : Blk _ _ _ _).free 0)
      have Fa := hfr.weak fa (fun x hx => .inr ((hs.get 0 rfl : World.ownsRow _ _ _ _ _ _ _).lt x (by simpa using hx)).1)
      clear c0 ca cf fa gc hs o0
      refine wp_name ?_; intro wb hw
      have hfb : Fr [w.heap.size + 1] wa wb := by rw [hw]; exact fr_set
      have sb := sa.upd 3 rfl hfb (by simp [aBlk]) (aBlk (w.heap.size + 1) 30 [.slice (some ⟨gx, 0, none⟩) (k + 1) cx, vu, vt, .int .i64 0]) (by show Blk _ _ _ _; rw [hw]; simpa using (sa.get 3 rfl : Blk _ _ _ _).set 0 _) (by simp [aBlk])
      have Fb := Fa.weak hfb (by simp)
      clear hw sa Fa hfb
      have hsz2 := Fb.size
      -- the second list
      have o0 := sb.get 1 rfl
      have c0 := (sb.get 3 rfl : Blk _ _ _ _).cell (i := 1) rfl
      go_upto_region 7 with (at_builtin; refine wpList_app1s el28 rfl (.tmp 17) (.tmp 18) rfl o0 rfl [.bool false] rfl rfl (by simp [Value.oneCell']) (by omega) (by omega) (by omega) ?_; intro gu cu wc oa fa ga' gb' gc; have sc := sb.upd 1 rfl fa (fun x hx => .inl hx) (aOwn w.heap.size 4 1 _ _ _) oa (own_fp gc); have ca := (sc.get 3 rfl : Blk _ _ _ _).cell (i := 1) rfl; have cf := (sc.get 3 rfl : Blk _ _ _ _).free 1)
      have Fc := Fb.weak fa (fun x hx => .inr ((sb.get 1 rfl : World.ownsRow _ _ _ _ _ _ _).lt x (by simpa using hx)).1)
      clear c0 ca cf fa gc sb o0 Fb
      refine wp_name ?_; intro wd hw
      have hfb : Fr [w.heap.size + 1] wc wd := by rw [hw]; exact fr_set
      have sd := sc.upd 3 rfl hfb (by simp [aBlk]) (aBlk (w.heap.size + 1) 30 [.slice (some ⟨gx, 0, none⟩) (k + 1) cx, .slice (some ⟨gu, 0, none⟩) (k + 1) cu, vt, .int .i64 0]) (by show Blk _ _ _ _; rw [hw]; simpa using (sc.get 3 rfl : Blk _ _ _ _).set 1 _) (by simp [aBlk])
      have Fd := Fc.weak hfb (by simp)
      clear hw sc Fc hfb
      have hsz3 := Fd.size
      -- the third list
      have o0 := sd.get 2 rfl
      have c0 := (sd.get 3 rfl : Blk _ _ _ _).cell (i := 2) rfl
      go_wp2_with (at_builtin; refine wpList_app1s el28 rfl (.tmp 22) (.tmp 23) rfl o0 rfl [.bool false] rfl rfl (by simp [Value.oneCell']) (by omega) (by omega) (by omega) ?_; intro gt ct we oa fa ga' gb' gc; have se := sd.upd 2 rfl fa (fun x hx => .inl hx) (aOwn w.heap.size 4 1 _ _ _) oa (own_fp gc); have ca := (se.get 3 rfl : Blk _ _ _ _).cell (i := 2) rfl; have cf := (se.get 3 rfl : Blk _ _ _ _).free 2)
      have Fe := Fd.weak fa (fun x hx => .inr ((sd.get 2 rfl : World.ownsRow _ _ _ _ _ _ _).lt x (by simpa using hx)).1)
      clear c0 ca cf fa gc sd o0 Fd
      go_roundw
      case rel =>
        refine ⟨k + 1, .slice (some ⟨gx, 0, none⟩) (k + 1) cx, .slice (some ⟨gu, 0, none⟩) (k + 1) cu, .slice (some ⟨gt, 0, none⟩) (k + 1) ct, by omega, by go_num, ?_, Fe.weak fr_set (by simp)⟩
        have sf := se.upd 3 rfl (fr_set (b := w.heap.size + 1) (i := 2) (v := .slice (some ⟨gt, 0, none⟩) (k + 1) ct)) (by simp [aBlk]) (aBlk (w.heap.size + 1) 30 [.slice (some ⟨gx, 0, none⟩) (k + 1) cx, .slice (some ⟨gu, 0, none⟩) (k + 1) cu, .slice (some ⟨gt, 0, none⟩) (k + 1) ct, .int .i64 0]) (by show Blk _ _ _ _; simpa using (se.get 3 rfl : Blk _ _ _ _).set 2 _) (by simp [aBlk])
        simpa [List.replicate_succ'] using sf
      case measure => simp [intOf]; omega
    · obtain rfl : k = n := by omega
      obtain ⟨b0, b1, b2, b3, bf⟩ := (hs.get 3 rfl : Blk _ _ _ _).cells4
      obtain ⟨d0, d1, d2, d3, df⟩ := (hs.get 4 rfl : Blk _ _ _ _).cells4
      have ox := hs.get 0 rfl
      have ou := hs.get 1 rfl
      have ot := hs.get 2 rfl
      obtain ⟨gx, cx, rfl, bx, -⟩ := own_form ox (by omega)
      obtain ⟨gu, cu, rfl, bu, -⟩ := own_form ou (by omega)
      obtain ⟨gt, ct, rfl, bt, -⟩ := own_form ot (by omega)
      have n1 := hs.ne 0 4 rfl rfl (by omega) (k := gx) (k' := w.heap.size) (by simp [aOwn, Value.ownBlock]) (by simp [aBlk])
      have n2 := hs.ne 1 4 rfl rfl (by omega) (k := gu) (k' := w.heap.size) (by simp [aOwn, Value.ownBlock]) (by simp [aBlk])
      have n3 := hs.ne 2 4 rfl rfl (by omega) (k := gt) (k' := w.heap.size) (by simp [aOwn, Value.ownBlock]) (by simp [aBlk])
      have hb4 := hs.get 4 rfl
      clear hs
      go_wp2_with fail
      refine ret_name ?_; intro w5 hw5
      obtain ⟨h5, f5⟩ := Blk.four hb4 hw5
      clear b0 b1 b2 b3 bf d0 d1 d2 d3 df hw5
      obtain ⟨d0, d1, d2, d3, -⟩ := h5.cells4
      refine bodyPost_ret (v := refV gx cx gu cu gt ct k 0) (by simp [results, Try.results12, go_sem, d0, d1, d2, d3, refV]) rfl ⟨gx, cx, gu, cu, gt, ct, rfl, ⟨?_, ?_, ?_, ?_, ?_⟩, hfr.weak f5 (by simp), bx, bu, bt⟩
      · simpa [SS.fresh, xsOf, Sl.none] using own_base (own_fr ox f5 (by simpa [Value.ownBlock] using n1)) (Nat.zero_le _)
      · simpa [SS.fresh, usOf, Sl.none] using own_base (own_fr ou f5 (by simpa [Value.ownBlock] using n2)) (Nat.zero_le _)
      · simpa [SS.fresh, tsOf, Sl.none] using own_base (own_fr ot f5 (by simpa [Value.ownBlock] using n3)) (Nat.zero_le _)
      · simp [SS.fresh]; omega
      · simp [SS.fresh]; omega
end Go.Proofs.Ytenilmcndapaeaa
