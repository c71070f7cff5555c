import Derived.Test.YtenilmcndapaeaaS4
import Derived.Test.YtenilmcndapaeaaReg
import Derived.Deep.Cut
namespace Go.Proofs.Ytenilmcndapaeaa
open Go.RowKit

theorem el27 : Elem Try.prog 27 9 (.string ⟨#[]⟩) 1 16 := ⟨by kernel_rfl, by kernel_rfl, rfl, by omega⟩
theorem el28 : Elem Try.prog 28 4 (.bool false) 1 1 := ⟨by kernel_rfl, by kernel_rfl, rfl, by omega⟩

def xsOf (s : SS) : List Value := s.l.map fun a => .string a.x
def usOf (s : SS) : List Value := s.l.map fun a => .bool a.used
def tsOf (s : SS) : List Value := s.l.map fun a => .bool a.touched
theorem xs_one (s : SS) : ∀ u ∈ xsOf s, u.oneCell' = true := by intro u hu; simp only [xsOf, List.mem_map] at hu; obtain ⟨a, -, rfl⟩ := hu; rfl
theorem us_one (s : SS) : ∀ u ∈ usOf s, u.oneCell' = true := by intro u hu; simp only [usOf, List.mem_map] at hu; obtain ⟨a, -, rfl⟩ := hu; rfl
theorem ts_one (s : SS) : ∀ u ∈ tsOf s, u.oneCell' = true := by intro u hu; simp only [tsOf, List.mem_map] at hu; obtain ⟨a, -, rfl⟩ := hu; rfl

/-- The document's slots, as the program holds them: three lists and a hand. -/
structure RefAt (w : World) (gx cx gu cu gt ct : Nat) (s : SS) : Prop where
  x : w.ownsRow 0 9 1 (.slice (some ⟨gx, 0, none⟩) s.l.length cx) s.l.length (xsOf s)
  u : w.ownsRow 0 4 1 (.slice (some ⟨gu, 0, none⟩) s.l.length cu) s.l.length (usOf s)
  t : w.ownsRow 0 4 1 (.slice (some ⟨gt, 0, none⟩) s.l.length ct) s.l.length (tsOf s)
  hand : s.hand < s.l.length
  len : s.l.length ≤ 64
def refV (gx cx gu cu gt ct : Nat) (n h : Nat) : Value := .agg #[.slice (some ⟨gx, 0, none⟩) n cx, .slice (some ⟨gu, 0, none⟩) n cu, .slice (some ⟨gt, 0, none⟩) n ct, .int .i64 h]

def withMask : List Bool := [false, false, false, false, false, false, false, false, false, false, false, true, true, true, true, true, true, true, true, true, true, true, true, true, true, true, true, false, false, false, false, false, false, false, false, false, false, false, false, false, false, false, false]
def withSup : Nat → List Nat
  | 0 => [12] | 1 => [13] | 2 => [14] | 3 => [15] | 4 => [16] | 5 => [17] | 6 => [18] | 7 => [19] | 8 => [20] | 9 => [21] | 10 => [22] | 11 => [23] | 12 => [24] | 13 => [25]
  | 14 => [26, 15, 19, 23, 25] | 15 => [11] | _ => []
def withNw (i : Nat) : Bool := i == 3 || i == 7 || i == 11 || i == 15
def withG (W b gx cx gu cu gt ct : Nat) (s : SS) : Nat → List Value → World → Prop
  | 0, [v], _ => ∃ g, v = .slice (some ⟨g, 0, none⟩) 0 0
  | 1, [v], _ => v = .pointer (some ⟨b, 0, none⟩)
  | 2, [v], _ => v = .slice (some ⟨gx, 0, none⟩) s.l.length cx
  | 3, [v], w => ∃ g c, v = .slice (some ⟨g, 0, none⟩) s.l.length c ∧ W ≤ g ∧ w.ownsRow 0 9 1 (.slice (some ⟨g, 0, none⟩) s.l.length c) s.l.length (xsOf s)
  | 4, [v], _ => ∃ g, v = .slice (some ⟨g, 0, none⟩) 0 0
  | 5, [v], _ => v = .pointer (some ⟨b, 1, none⟩)
  | 6, [v], _ => v = .slice (some ⟨gu, 0, none⟩) s.l.length cu
  | 7, [v], w => ∃ g c, v = .slice (some ⟨g, 0, none⟩) s.l.length c ∧ W ≤ g ∧ w.ownsRow 0 4 1 (.slice (some ⟨g, 0, none⟩) s.l.length c) s.l.length (usOf s)
  | 8, [v], _ => ∃ g, v = .slice (some ⟨g, 0, none⟩) 0 0
  | 9, [v], _ => v = .pointer (some ⟨b, 2, none⟩)
  | 10, [v], _ => v = .slice (some ⟨gt, 0, none⟩) s.l.length ct
  | 11, [v], w => ∃ g c, v = .slice (some ⟨g, 0, none⟩) s.l.length c ∧ W ≤ g ∧ w.ownsRow 0 4 1 (.slice (some ⟨g, 0, none⟩) s.l.length c) s.l.length (tsOf s)
  | 12, [v], _ => v = .pointer (some ⟨b, 3, none⟩)
  | 13, [v], _ => v = .int .i64 s.hand
  | 14, [v, a, b, c, d], _ => v = .agg #[a, b, c, d]
  | 15, [v], w => ∃ q, v = .pointer (some ⟨q, 0, none⟩) ∧ W ≤ q ∧ Blk w q 30 [.slice none 0 0, .slice none 0 0, .slice none 0 0, .int .i64 0]
  | _, _, _ => False

set_option maxRecDepth 100000 in
set_option maxHeartbeats 4000000 in
theorem with_any {w : World} {gx cx gu cu gt ct : Nat} {s : SS} (h : RefAt w gx cx gu cu gt ct s) (k : Nat) (hk : k < s.l.length) (x : ByteArray) (us ts : Bool) :
    Calls Try.prog 32 #[refV gx cx gu cu gt ct s.l.length s.hand, .int .i64 k, .string x, .bool us, .bool ts] w fun e w' => ∃ gx cx gu cu gt ct,
      e = .returned (refV gx cx gu cu gt ct s.l.length s.hand) ∧ RefAt w' gx cx gu cu gt ct (s.at k ⟨x, us, ts⟩) ∧ Fr [] w w' := by
  unfold refV
  go_enter Try.func32, Try.ntmps32
  go_wp2_with fail
  refine wp_region_steps 16 withSup withMask (by kernel_rfl) _ (by kernel_rfl) (by kernel_rfl) (by kernel_rfl) withNw (by kernel_rfl) (by kernel_rfl) (Fr []) (withG (w.heap.size + 2) w.heap.size gx cx gu cu gt ct s) [] (fun _ _ _ h1 h2 => h1.trans h2) ?_ (fun _ _ h => h.size) _ (Fr.refl _ _) ?_ ?_
  · intro i l w w' hi hR hg
    match i, l, hg with
    | 0, [v], hg => exact hg
    | 1, [v], hg => exact hg
    | 2, [v], hg => exact hg
    | 3, [v], ⟨g, c, h1, h2, h3⟩ => exact ⟨g, c, h1, h2, own_fr h3 hR (by simp)⟩
    | 4, [v], hg => exact hg
    | 5, [v], hg => exact hg
    | 6, [v], hg => exact hg
    | 7, [v], ⟨g, c, h1, h2, h3⟩ => exact ⟨g, c, h1, h2, own_fr h3 hR (by simp)⟩
    | 8, [v], hg => exact hg
    | 9, [v], hg => exact hg
    | 10, [v], hg => exact hg
    | 11, [v], ⟨g, c, h1, h2, h3⟩ => exact ⟨g, c, h1, h2, own_fr h3 hR (by simp)⟩
    | 12, [v], hg => exact hg
    | 13, [v], hg => exact hg
    | 14, [v, a, b, c, d], hg => exact hg
    | 15, [v], ⟨q, h1, h2, h3⟩ => exact ⟨q, h1, h2, h3.fr hR (by simp)⟩
  · refine ⟨?_, ?_, ?_, ?_, ?_, ?_, ?_, ?_, ?_, ?_, ?_, ?_, ?_, ?_, ?_, ?_, trivial⟩
    all_goals intro σ w' hR hd
    all_goals simp only [withMask, fill, Nat.reduceAdd, if_true, Bool.false_eq_true, if_false]
    all_goals have hb := ((((Blk.new w 30 _).alloc _).drew).fr hR (by simp))
    all_goals have hsz := hR.size
    all_goals have hf0 := ((((Fr.refl [] w).alloc _).alloc _).drew).trans hR
    all_goals have hl64 := h.len
    all_goals simp only [World.size_drew, World.size_alloc] at hsz
    · go_wp2
      exact ⟨(Fr.refl _ _).alloc _, ⟨_, rfl⟩, fun h => absurd h (by decide)⟩
    · go_wp2
      exact ⟨Fr.refl _ _, rfl, fun h => absurd h (by decide)⟩
    · have c := hb.cell (i := 0) rfl
      obtain h1 : σ 13 = _ := hd 1 (by decide) (by decide)
      rw [h1]
      go_wp2
      exact ⟨Fr.refl _ _, rfl, fun h => absurd h (by decide)⟩
    · obtain ⟨g, h1⟩ := hd 0 (by decide) (by decide)
      obtain h2 : σ 14 = _ := hd 2 (by decide) (by decide)
      have h1 : σ 12 = .slice (some ⟨g, 0, none⟩) 0 0 := h1
      rw [h1, h2]
      refine wpList_appcopy el27 rfl (.tmp 12) (.tmp 14) rfl rfl (own_fr h.x hf0 (by simp)) rfl (xs_one s) (by omega) (by omega) (by omega) ?_
      intro g' c' w2 hown hfr h3 h4
      exact ⟨rfl, rfl, hfr, ⟨g', c', rfl, by omega, own_base hown (Nat.zero_le _)⟩, fun _ => ⟨g', rfl, h3, h4⟩⟩
    · go_wp2
      exact ⟨(Fr.refl _ _).alloc _, ⟨_, rfl⟩, fun h => absurd h (by decide)⟩
    · go_wp2
      exact ⟨Fr.refl _ _, rfl, fun h => absurd h (by decide)⟩
    · have c := hb.cell (i := 1) rfl
      obtain h1 : σ 17 = _ := hd 5 (by decide) (by decide)
      rw [h1]
      go_wp2
      exact ⟨Fr.refl _ _, rfl, fun h => absurd h (by decide)⟩
    · obtain ⟨g, h1⟩ := hd 4 (by decide) (by decide)
      obtain h2 : σ 18 = _ := hd 6 (by decide) (by decide)
      have h1 : σ 16 = .slice (some ⟨g, 0, none⟩) 0 0 := h1
      rw [h1, h2]
      refine wpList_appcopy el28 rfl (.tmp 16) (.tmp 18) rfl rfl (own_fr h.u hf0 (by simp)) rfl (us_one s) (by omega) (by omega) (by omega) ?_
      intro g' c' w2 hown hfr h3 h4
      exact ⟨rfl, rfl, hfr, ⟨g', c', rfl, by omega, own_base hown (Nat.zero_le _)⟩, fun _ => ⟨g', rfl, h3, h4⟩⟩
    · go_wp2
      exact ⟨(Fr.refl _ _).alloc _, ⟨_, rfl⟩, fun h => absurd h (by decide)⟩
    · go_wp2
      exact ⟨Fr.refl _ _, rfl, fun h => absurd h (by decide)⟩
    · have c := hb.cell (i := 2) rfl
      obtain h1 : σ 21 = _ := hd 9 (by decide) (by decide)
      rw [h1]
      go_wp2
      exact ⟨Fr.refl _ _, rfl, fun h => absurd h (by decide)⟩
    · obtain ⟨g, h1⟩ := hd 8 (by decide) (by decide)
      obtain h2 : σ 22 = _ := hd 10 (by decide) (by decide)
      have h1 : σ 20 = .slice (some ⟨g, 0, none⟩) 0 0 := h1
      rw [h1, h2]
      refine wpList_appcopy el28 rfl (.tmp 20) (.tmp 22) rfl rfl (own_fr h.t hf0 (by simp)) rfl (ts_one s) (by omega) (by omega) (by omega) ?_
      intro g' c' w2 hown hfr h3 h4
      exact ⟨rfl, rfl, hfr, ⟨g', c', rfl, by omega, own_base hown (Nat.zero_le _)⟩, fun _ => ⟨g', rfl, h3, h4⟩⟩
    · go_wp2
      exact ⟨Fr.refl _ _, rfl, fun h => absurd h (by decide)⟩
    · have c := hb.cell (i := 3) rfl
      obtain h1 : σ 24 = _ := hd 12 (by decide) (by decide)
      rw [h1]
      go_wp2
      exact ⟨Fr.refl _ _, rfl, fun h => absurd h (by decide)⟩
    · obtain ⟨g0, c0, e0, -, -⟩ : ∃ g c, σ 15 = .slice (some ⟨g, 0, none⟩) s.l.length c ∧ _ := hd 3 (by decide) (by decide)
      obtain ⟨g1, c1, e1, -, -⟩ : ∃ g c, σ 19 = .slice (some ⟨g, 0, none⟩) s.l.length c ∧ _ := hd 7 (by decide) (by decide)
      obtain ⟨g2, c2, e2, -, -⟩ : ∃ g c, σ 23 = .slice (some ⟨g, 0, none⟩) s.l.length c ∧ _ := hd 11 (by decide) (by decide)
      obtain e3 : σ 25 = _ := hd 13 (by decide) (by decide)
      rw [e0, e1, e2, e3]
      go_wp2
      exact ⟨Fr.refl _ _, rfl, fun h => absurd h (by decide)⟩
    · go_wp2
      exact ⟨(Fr.refl _ _).alloc _, ⟨_, rfl, by omega, Blk.new _ _ _⟩, fun _ => ⟨_, rfl, Nat.le_refl _, by simp⟩⟩
  · intro σ w' hR hf hne
    simp only [withMask, fill, Nat.reduceAdd, if_true, Bool.false_eq_true, if_false]
    obtain ⟨g0, c0, e0, l0, o0⟩ : ∃ g c, σ 15 = .slice (some ⟨g, 0, none⟩) s.l.length c ∧ _ := hf 3 (by decide)
    obtain ⟨g1, c1, e1, l1, o1⟩ : ∃ g c, σ 19 = .slice (some ⟨g, 0, none⟩) s.l.length c ∧ _ := hf 7 (by decide)
    obtain ⟨g2, c2, e2, l2, o2⟩ : ∃ g c, σ 23 = .slice (some ⟨g, 0, none⟩) s.l.length c ∧ _ := hf 11 (by decide)
    obtain e3 : σ 25 = _ := hf 13 (by decide)
    obtain e4 : σ 26 = .agg #[σ 15, σ 19, σ 23, σ 25] := hf 14 (by decide)
    obtain ⟨q, e5, l5, hq⟩ : ∃ q, σ 11 = .pointer (some ⟨q, 0, none⟩) ∧ _ := hf 15 (by decide)
    have n12 := hne 7 11 19 23 (by decide) (by decide) (by decide) rfl rfl rfl rfl
    rw [e1, e2] at n12
    have n12 : g1 ≠ g2 := by simpa [vblk] using n12
    rw [e0, e1, e2, e3] at e4
    rw [e4, e5, e0, e1, e2, e3]
    have hl64 := h.len
    have hf0 : Fr [] w w' := ((((Fr.refl [] w).alloc _).alloc _).drew).trans hR
    have h10 := (((Blk.new _ 30 _).drew).fr hR (by simp))
    simp only [World.size_alloc] at h10
    have hx := hid (show (xsOf s)[k]? = some (.string s.l[k].x) by simp [xsOf, hk])
    have hu := hid (show (usOf s)[k]? = some (.bool s.l[k].used) by simp [usOf, hk])
    have ht := hid (show (tsOf s)[k]? = some (.bool s.l[k].touched) by simp [tsOf, hk])
    clear hR hf hne e0 e1 e2 e3 e4 e5
    have m0 : g0 ≠ q := own_ne o0 hq (by decide) g0 rfl
    have m1 : g1 ≠ q := own_ne o1 hq (by decide) g1 rfl
    have m2 : g2 ≠ q := own_ne o2 hq (by decide) g2 rfl
    have m10 : w.heap.size + 1 ≠ q := by omega
    have n01 : g0 ≠ g1 := own_ne2 o0 o1 (by decide)
    have n02 : g0 ≠ g2 := own_ne2 o0 o2 (by decide)
    have k0 : w.heap.size + 1 ≠ g0 := by omega
    have k1 : w.heap.size + 1 ≠ g1 := by omega
    have k2 : w.heap.size + 1 ≠ g2 := by omega
    -- the literal is laid
    have q0 := hq.cell (i := 0) rfl
    have q1 := hq.cell (i := 1) rfl
    have q2 := hq.cell (i := 2) rfl
    have q3 := hq.cell (i := 3) rfl
    have qf := fun j => hq.free j
    go_upto_region 2 with (fail)
    clear q0 q1 q2 q3 qf
    refine wp_name ?_; intro w1 hw1
    have f1 : Fr [q] w' w1 := by rw [hw1]; exact ((fr_set.trans fr_set).trans fr_set).trans fr_set
    have hq1 : Blk w1 q 30 [.slice (some ⟨g0, 0, none⟩) s.l.length c0, .slice (some ⟨g1, 0, none⟩) s.l.length c1, .slice (some ⟨g2, 0, none⟩) s.l.length c2, .int .i64 s.hand] := by
      rw [hw1]; simpa using (((hq.set 0 _).set 1 _).set 2 _).set 3 _
    clear hw1
    have F1 := hf0.weak f1 (by simp; omega)
    replace o0 := own_fr o0 f1 (by simp [Value.ownBlock, m0])
    replace o1 := own_fr o1 f1 (by simp [Value.ownBlock, m1])
    replace o2 := own_fr o2 f1 (by simp [Value.ownBlock, m2])
    replace h10 := h10.fr f1 (by simp [m10])
    have c1' := hq1.cell (i := 0) rfl
    have c2' := own_cell o0 hx.out
    have c3' := own_free o0 k
    go_upto_region 3 with (fail)
    clear c1' c2' c3'
    refine wp_name ?_; intro w2 hw2
    have f2 : Fr [g0] w1 w2 := by rw [hw2]; exact fr_set
    replace o0 := own_setW o0 hw2
    clear hw2
    have F2 := F1.weak f2 (by simp; omega)
    replace o1 := own_fr o1 f2 (by simp [Value.ownBlock, Ne.symm n01])
    replace o2 := own_fr o2 f2 (by simp [Value.ownBlock, Ne.symm n02])
    replace hq1 := hq1.fr f2 (by simp [Ne.symm m0])
    replace h10 := h10.fr f2 (by simp [k0])
    have c1' := hq1.cell (i := 1) rfl
    have c2' := own_cell o1 hu.out
    have c3' := own_free o1 k
    go_upto_region 4 with (fail)
    clear c1' c2' c3'
    refine wp_name ?_; intro w3 hw3
    have f3 : Fr [g1] w2 w3 := by rw [hw3]; exact fr_set
    replace o1 := own_setW o1 hw3
    clear hw3
    have F3 := F2.weak f3 (by simp; omega)
    replace o0 := own_fr o0 f3 (by simp [Value.ownBlock, n01])
    replace o2 := own_fr o2 f3 (by simp [Value.ownBlock, Ne.symm n12])
    replace hq1 := hq1.fr f3 (by simp [Ne.symm m1])
    replace h10 := h10.fr f3 (by simp [k1])
    have c1' := hq1.cell (i := 2) rfl
    have c2' := own_cell o2 ht.out
    have c3' := own_free o2 k
    go_upto_region 5 with (fail)
    clear c1' c2' c3'
    refine wp_name ?_; intro w4 hw4
    have f4 : Fr [g2] w3 w4 := by rw [hw4]; exact fr_set
    replace o2 := own_setW o2 hw4
    clear hw4
    have F4 := F3.weak f4 (by simp; omega)
    replace o0 := own_fr o0 f4 (by simp [Value.ownBlock, n02])
    replace o1 := own_fr o1 f4 (by simp [Value.ownBlock, n12])
    replace hq1 := hq1.fr f4 (by simp [Ne.symm m2])
    replace h10 := h10.fr f4 (by simp [k2])
    have q0 := hq1.cell (i := 0) rfl
    have q1 := hq1.cell (i := 1) rfl
    have q2 := hq1.cell (i := 2) rfl
    have q3 := hq1.cell (i := 3) rfl
    have r0 := h10.cell (i := 0) rfl
    have r1 := h10.cell (i := 1) rfl
    have r2 := h10.cell (i := 2) rfl
    have r3 := h10.cell (i := 3) rfl
    have rf := fun j => h10.free j
    go_wp2_with fail
    clear r0 r1 r2 r3 rf q0 q1 q2 q3
    refine ret_name ?_; intro w5 hw5
    have f5 : Fr [w.heap.size + 1] w4 w5 := by rw [hw5]; exact ((fr_set.trans fr_set).trans fr_set).trans fr_set
    have h105 : Blk w5 (w.heap.size + 1) 30 [.slice (some ⟨g0, 0, none⟩) s.l.length c0, .slice (some ⟨g1, 0, none⟩) s.l.length c1, .slice (some ⟨g2, 0, none⟩) s.l.length c2, .int .i64 s.hand] := by
      rw [hw5]; simpa using (((h10.set 0 _).set 1 _).set 2 _).set 3 _
    clear hw5
    have F5 := F4.weak f5 (by simp)
    replace o0 := own_fr o0 f5 (by simp [Value.ownBlock]; omega)
    replace o1 := own_fr o1 f5 (by simp [Value.ownBlock]; omega)
    replace o2 := own_fr o2 f5 (by simp [Value.ownBlock]; omega)
    have r0 := h105.cell (i := 0) rfl
    have r1 := h105.cell (i := 1) rfl
    have r2 := h105.cell (i := 2) rfl
    have r3 := h105.cell (i := 3) rfl
    refine bodyPost_ret (v := refV g0 c0 g1 c1 g2 c2 s.l.length s.hand) (by simp [results, Try.results32, go_sem, r0, r1, r2, r3, refV]) rfl ⟨g0, c0, g1, c1, g2, c2, rfl, ⟨?_, ?_, ?_, ?_, ?_⟩, F5⟩
    · simpa [SS.at, xsOf, List.map_set] using o0
    · simpa [SS.at, usOf, List.map_set] using o1
    · simpa [SS.at, tsOf, List.map_set] using o2
    · simpa [SS.at] using h.hand
    · simpa [SS.at] using h.len
end Go.Proofs.Ytenilmcndapaeaa
