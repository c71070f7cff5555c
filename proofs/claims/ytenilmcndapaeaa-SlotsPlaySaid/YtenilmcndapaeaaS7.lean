import Derived.Test.YtenilmcndapaeaaS6
import Derived.StillTailTactics
namespace Go.Proofs.Ytenilmcndapaeaa
open Go.RowKit

set_option maxRecDepth 100000 in
set_option maxHeartbeats 1000000 in
theorem rget_no {w : World} {gx cx gu cu gt ct : Nat} {s : SS} (h : RefAt w gx cx gu cu gt ct s) (i : Int) (hu : s.used i = false) :
    Calls Try.prog 26 #[refV gx cx gu cu gt ct s.l.length s.hand, .int .i64 i] w fun e w' => e = .returned (.tuple #[.string ⟨#[]⟩, .bool false]) ∧ Fr [] w w' := by
  have hl := h.len
  have hu := hid hu
  unfold refV
  go_enter Try.func26, Try.ntmps26
  go_wp2_with fail
  have hf := (Fr.refl [] w).alloc (.cells #[.slice (some ⟨gx, 0, none⟩) s.l.length cx, .slice (some ⟨gu, 0, none⟩) s.l.length cu, .slice (some ⟨gt, 0, none⟩) s.l.length ct, .int .i64 s.hand] 30)
  refine (there_any (h.fr hf (by simp) (by simp) (by simp)) i).mono ?_
  rintro e w1 ⟨rfl, hf1⟩
  rw [hu.out]
  go_wp2
  go_ret2
  exact ⟨rfl, hf.trans hf1⟩

set_option maxRecDepth 100000 in
set_option maxHeartbeats 1000000 in
theorem rget_yes {w : World} {gx cx gu cu gt ct : Nat} {s : SS} (h : RefAt w gx cx gu cu gt ct s) (k : Nat) (hk : k < s.l.length) (hu : s.l[k].used = true) :
    Calls Try.prog 26 #[refV gx cx gu cu gt ct s.l.length s.hand, .int .i64 k] w fun e w' => e = .returned (.tuple #[.string s.l[k].x, .bool true]) ∧ Fr [] w w' := by
  have hl := h.len
  have hu := hid ((SS.used_in hk).trans hu)
  unfold refV
  go_enter Try.func26, Try.ntmps26
  go_wp2_with fail
  have hf := (Fr.refl [] w).alloc (.cells #[.slice (some ⟨gx, 0, none⟩) s.l.length cx, .slice (some ⟨gu, 0, none⟩) s.l.length cu, .slice (some ⟨gt, 0, none⟩) s.l.length ct, .int .i64 s.hand] 30)
  refine (there_any (h.fr hf (by simp) (by simp) (by simp)) k).mono ?_
  rintro e w1 ⟨rfl, hf1⟩
  rw [hu.out]
  have hb := (Blk.new w 30 _).fr hf1 (by simp)
  have c0 := hb.cell (i := 0) rfl
  obtain ⟨c1, -, -⟩ := (h.fr (hf.trans hf1) (by simp) (by simp) (by simp)).slot hk
  go_wp2
  go_ret2
  exact ⟨rfl, hf.trans hf1⟩

set_option maxRecDepth 100000 in
set_option maxHeartbeats 1000000 in
theorem rtouch_no {w : World} {gx cx gu cu gt ct : Nat} {s : SS} (h : RefAt w gx cx gu cu gt ct s) (i : Int) (hu : s.used i = false) :
    Calls Try.prog 27 #[refV gx cx gu cu gt ct s.l.length s.hand, .int .i64 i] w fun e w' => e = .returned (.tuple #[refV gx cx gu cu gt ct s.l.length s.hand, .bool false]) ∧ Fr [] w w' := by
  have hl := h.len
  have hu := hid hu
  unfold refV
  go_enter Try.func27, Try.ntmps27
  go_wp2_with fail
  have hf := ((Fr.refl [] w).alloc (.cells #[.slice (some ⟨gx, 0, none⟩) s.l.length cx, .slice (some ⟨gu, 0, none⟩) s.l.length cu, .slice (some ⟨gt, 0, none⟩) s.l.length ct, .int .i64 s.hand] 30)).alloc (.cells #[.slice none 0 0, .slice none 0 0, .slice none 0 0, .int .i64 0] 30)
  refine (there_any (h.fr hf (by simp) (by simp) (by simp)) i).mono ?_
  rintro e w1 ⟨rfl, hf1⟩
  rw [hu.out]
  have hb := ((Blk.new w 30 _).alloc _).fr hf1 (by simp)
  have hb4 := (Blk.new _ 30 _).fr hf1 (by simp)
  simp only [World.size_alloc] at hb4
  obtain ⟨b0, b1, b2, b3, -⟩ := hb.cells4
  obtain ⟨d0, d1, d2, d3, df⟩ := hb4.cells4
  go_wp2
  refine ret_name ?_; intro w5 hw5
  obtain ⟨h5, f5⟩ := hb4.four hw5
  clear b0 b1 b2 b3 d0 d1 d2 d3 df hw5
  obtain ⟨d0, d1, d2, d3, -⟩ := h5.cells4
  exact bodyPost_ret (v := .tuple #[refV gx cx gu cu gt ct s.l.length s.hand, .bool false]) (by simp [results, Try.results27, go_sem, d0, d1, d2, d3, refV]) rfl ⟨rfl, (hf.trans hf1).weak f5 (by simp)⟩

set_option maxRecDepth 100000 in
set_option maxHeartbeats 1000000 in
theorem rfree_no {w : World} {gx cx gu cu gt ct : Nat} {s : SS} (h : RefAt w gx cx gu cu gt ct s) (i : Int) (hu : s.used i = false) :
    Calls Try.prog 28 #[refV gx cx gu cu gt ct s.l.length s.hand, .int .i64 i] w fun e w' => e = .returned (.tuple #[refV gx cx gu cu gt ct s.l.length s.hand, .bool false]) ∧ Fr [] w w' := by
  have hl := h.len
  have hu := hid hu
  unfold refV
  go_enter Try.func28, Try.ntmps28
  go_wp2_with fail
  have hf := ((Fr.refl [] w).alloc (.cells #[.slice (some ⟨gx, 0, none⟩) s.l.length cx, .slice (some ⟨gu, 0, none⟩) s.l.length cu, .slice (some ⟨gt, 0, none⟩) s.l.length ct, .int .i64 s.hand] 30)).alloc (.cells #[.slice none 0 0, .slice none 0 0, .slice none 0 0, .int .i64 0] 30)
  refine (there_any (h.fr hf (by simp) (by simp) (by simp)) i).mono ?_
  rintro e w1 ⟨rfl, hf1⟩
  rw [hu.out]
  have hb := ((Blk.new w 30 _).alloc _).fr hf1 (by simp)
  have hb4 := (Blk.new _ 30 _).fr hf1 (by simp)
  simp only [World.size_alloc] at hb4
  obtain ⟨b0, b1, b2, b3, -⟩ := hb.cells4
  obtain ⟨d0, d1, d2, d3, df⟩ := hb4.cells4
  go_wp2
  refine ret_name ?_; intro w5 hw5
  obtain ⟨h5, f5⟩ := hb4.four hw5
  clear b0 b1 b2 b3 d0 d1 d2 d3 df hw5
  obtain ⟨d0, d1, d2, d3, -⟩ := h5.cells4
  exact bodyPost_ret (v := .tuple #[refV gx cx gu cu gt ct s.l.length s.hand, .bool false]) (by simp [results, Try.results28, go_sem, d0, d1, d2, d3, refV]) rfl ⟨rfl, (hf.trans hf1).weak f5 (by simp)⟩

set_option maxRecDepth 100000 in
set_option maxHeartbeats 1000000 in
theorem rset_no {w : World} {gx cx gu cu gt ct : Nat} {s : SS} (h : RefAt w gx cx gu cu gt ct s) (i : Int) (x : ByteArray) (hu : s.used i = false) :
    Calls Try.prog 29 #[refV gx cx gu cu gt ct s.l.length s.hand, .int .i64 i, .string x] w fun e w' => e = .returned (.tuple #[refV gx cx gu cu gt ct s.l.length s.hand, .bool false]) ∧ Fr [] w w' := by
  have hl := h.len
  have hu := hid hu
  unfold refV
  go_enter Try.func29, Try.ntmps29
  go_wp2_with fail
  have hf := ((Fr.refl [] w).alloc (.cells #[.slice (some ⟨gx, 0, none⟩) s.l.length cx, .slice (some ⟨gu, 0, none⟩) s.l.length cu, .slice (some ⟨gt, 0, none⟩) s.l.length ct, .int .i64 s.hand] 30)).alloc (.cells #[.slice none 0 0, .slice none 0 0, .slice none 0 0, .int .i64 0] 30)
  refine (there_any (h.fr hf (by simp) (by simp) (by simp)) i).mono ?_
  rintro e w1 ⟨rfl, hf1⟩
  rw [hu.out]
  have hb := ((Blk.new w 30 _).alloc _).fr hf1 (by simp)
  have hb4 := (Blk.new _ 30 _).fr hf1 (by simp)
  simp only [World.size_alloc] at hb4
  obtain ⟨b0, b1, b2, b3, -⟩ := hb.cells4
  obtain ⟨d0, d1, d2, d3, df⟩ := hb4.cells4
  go_wp2
  refine ret_name ?_; intro w5 hw5
  obtain ⟨h5, f5⟩ := hb4.four hw5
  clear b0 b1 b2 b3 d0 d1 d2 d3 df hw5
  obtain ⟨d0, d1, d2, d3, -⟩ := h5.cells4
  exact bodyPost_ret (v := .tuple #[refV gx cx gu cu gt ct s.l.length s.hand, .bool false]) (by simp [results, Try.results29, go_sem, d0, d1, d2, d3, refV]) rfl ⟨rfl, (hf.trans hf1).weak f5 (by simp)⟩

set_option maxRecDepth 100000 in
set_option maxHeartbeats 1000000 in
theorem rtouch_yes {w : World} {gx cx gu cu gt ct : Nat} {s : SS} (h : RefAt w gx cx gu cu gt ct s) (k : Nat) (hk : k < s.l.length) (hu : s.l[k].used = true) :
    Calls Try.prog 27 #[refV gx cx gu cu gt ct s.l.length s.hand, .int .i64 k] w fun e w' => ∃ gx cx gu cu gt ct,
      e = .returned (.tuple #[refV gx cx gu cu gt ct s.l.length s.hand, .bool true]) ∧ RefAt w' gx cx gu cu gt ct (s.at k ⟨s.l[k].x, true, true⟩) ∧ Fr [] w w' := by
  have hl := h.len
  have hu := hid ((SS.used_in hk).trans hu)
  unfold refV
  go_enter Try.func27, Try.ntmps27
  go_wp2_with fail
  have hf := ((Fr.refl [] w).alloc (.cells #[.slice (some ⟨gx, 0, none⟩) s.l.length cx, .slice (some ⟨gu, 0, none⟩) s.l.length cu, .slice (some ⟨gt, 0, none⟩) s.l.length ct, .int .i64 s.hand] 30)).alloc (.cells #[.slice none 0 0, .slice none 0 0, .slice none 0 0, .int .i64 0] 30)
  refine (there_any (h.fr hf (by simp) (by simp) (by simp)) k).mono ?_
  rintro e w1 ⟨rfl, hf1⟩
  rw [hu.out]
  have hb := ((Blk.new w 30 _).alloc _).fr hf1 (by simp)
  have hb4 := (Blk.new _ 30 _).fr hf1 (by simp)
  simp only [World.size_alloc] at hb4
  obtain ⟨b0, b1, b2, b3, -⟩ := hb.cells4
  have h1 := h.fr (hf.trans hf1) (by simp) (by simp) (by simp)
  obtain ⟨c1, -, -⟩ := h1.slot hk
  go_wp2_with fail
  go_still_tail 7, (by kernel_rfl)
  have hdr := (hf.trans hf1).drew
  have h1d := h1.fr (Fr.drew (Fr.refl [] w1)) (by simp) (by simp) (by simp)
  have hb4 := hb4.drew
  go_wp2_with fail
  refine (with_any h1d k hk s.l[k].x true true).mono ?_
  rintro e w2 ⟨gx', cx', gu', cu', gt', ct', rfl, h2, hf2⟩
  have hb4' := hb4.fr hf2 (by simp)
  clear b0 b1 b2 b3
  have hne1 : gx' ≠ w.heap.size + 1 := own_ne h2.x hb4' (by decide) gx' rfl
  have hne2 : gu' ≠ w.heap.size + 1 := own_ne h2.u hb4' (by decide) gu' rfl
  have hne3 : gt' ≠ w.heap.size + 1 := own_ne h2.t hb4' (by decide) gt' rfl
  obtain ⟨d0, d1, d2, d3, df⟩ := hb4'.cells4
  unfold refV
  go_wp2
  refine ret_name ?_; intro w5 hw5
  obtain ⟨h5, f5⟩ := hb4'.four hw5
  clear d0 d1 d2 d3 df hw5
  obtain ⟨d0, d1, d2, d3, -⟩ := h5.cells4
  exact bodyPost_ret (v := .tuple #[refV gx' cx' gu' cu' gt' ct' s.l.length s.hand, .bool true]) (by simp [results, Try.results27, go_sem, d0, d1, d2, d3, refV]) rfl
    ⟨gx', cx', gu', cu', gt', ct', rfl, h2.fr f5 (by simpa using hne1) (by simpa using hne2) (by simpa using hne3), (hdr.trans hf2).weak f5 (by simp)⟩

set_option maxRecDepth 100000 in
set_option maxHeartbeats 1000000 in
theorem rfree_yes {w : World} {gx cx gu cu gt ct : Nat} {s : SS} (h : RefAt w gx cx gu cu gt ct s) (k : Nat) (hk : k < s.l.length) (hu : s.l[k].used = true) :
    Calls Try.prog 28 #[refV gx cx gu cu gt ct s.l.length s.hand, .int .i64 k] w fun e w' => ∃ gx cx gu cu gt ct,
      e = .returned (.tuple #[refV gx cx gu cu gt ct s.l.length s.hand, .bool true]) ∧ RefAt w' gx cx gu cu gt ct (s.at k ⟨⟨#[]⟩, false, false⟩) ∧ Fr [] w w' := by
  have hl := h.len
  have hu := hid ((SS.used_in hk).trans hu)
  unfold refV
  go_enter Try.func28, Try.ntmps28
  go_wp2_with fail
  have hf := ((Fr.refl [] w).alloc (.cells #[.slice (some ⟨gx, 0, none⟩) s.l.length cx, .slice (some ⟨gu, 0, none⟩) s.l.length cu, .slice (some ⟨gt, 0, none⟩) s.l.length ct, .int .i64 s.hand] 30)).alloc (.cells #[.slice none 0 0, .slice none 0 0, .slice none 0 0, .int .i64 0] 30)
  refine (there_any (h.fr hf (by simp) (by simp) (by simp)) k).mono ?_
  rintro e w1 ⟨rfl, hf1⟩
  rw [hu.out]
  have hb := ((Blk.new w 30 _).alloc _).fr hf1 (by simp)
  have hb4 := (Blk.new _ 30 _).fr hf1 (by simp)
  simp only [World.size_alloc] at hb4
  obtain ⟨b0, b1, b2, b3, -⟩ := hb.cells4
  have h1 := h.fr (hf.trans hf1) (by simp) (by simp) (by simp)
  obtain ⟨-, -, -⟩ := h1.slot hk
  go_wp2_with fail
  have hdr := hf.trans hf1
  have h1d := h1
  go_wp2_with fail
  refine (with_any h1d k hk ⟨#[]⟩ false false).mono ?_
  rintro e w2 ⟨gx', cx', gu', cu', gt', ct', rfl, h2, hf2⟩
  have hb4' := hb4.fr hf2 (by simp)
  clear b0 b1 b2 b3
  have hne1 : gx' ≠ w.heap.size + 1 := own_ne h2.x hb4' (by decide) gx' rfl
  have hne2 : gu' ≠ w.heap.size + 1 := own_ne h2.u hb4' (by decide) gu' rfl
  have hne3 : gt' ≠ w.heap.size + 1 := own_ne h2.t hb4' (by decide) gt' rfl
  obtain ⟨d0, d1, d2, d3, df⟩ := hb4'.cells4
  unfold refV
  go_wp2
  refine ret_name ?_; intro w5 hw5
  obtain ⟨h5, f5⟩ := hb4'.four hw5
  clear d0 d1 d2 d3 df hw5
  obtain ⟨d0, d1, d2, d3, -⟩ := h5.cells4
  exact bodyPost_ret (v := .tuple #[refV gx' cx' gu' cu' gt' ct' s.l.length s.hand, .bool true]) (by simp [results, Try.results28, go_sem, d0, d1, d2, d3, refV]) rfl
    ⟨gx', cx', gu', cu', gt', ct', rfl, h2.fr f5 (by simpa using hne1) (by simpa using hne2) (by simpa using hne3), (hdr.trans hf2).weak f5 (by simp)⟩

set_option maxRecDepth 100000 in
set_option maxHeartbeats 1000000 in
theorem rset_yes {w : World} {gx cx gu cu gt ct : Nat} {s : SS} (h : RefAt w gx cx gu cu gt ct s) (k : Nat) (x : ByteArray) (hk : k < s.l.length) (hu : s.l[k].used = true) :
    Calls Try.prog 29 #[refV gx cx gu cu gt ct s.l.length s.hand, .int .i64 k, .string x] w fun e w' => ∃ gx cx gu cu gt ct,
      e = .returned (.tuple #[refV gx cx gu cu gt ct s.l.length s.hand, .bool true]) ∧ RefAt w' gx cx gu cu gt ct (s.at k ⟨x, true, s.l[k].touched⟩) ∧ Fr [] w w' := by
  have hl := h.len
  have hu := hid ((SS.used_in hk).trans hu)
  unfold refV
  go_enter Try.func29, Try.ntmps29
  go_wp2_with fail
  have hf := ((Fr.refl [] w).alloc (.cells #[.slice (some ⟨gx, 0, none⟩) s.l.length cx, .slice (some ⟨gu, 0, none⟩) s.l.length cu, .slice (some ⟨gt, 0, none⟩) s.l.length ct, .int .i64 s.hand] 30)).alloc (.cells #[.slice none 0 0, .slice none 0 0, .slice none 0 0, .int .i64 0] 30)
  refine (there_any (h.fr hf (by simp) (by simp) (by simp)) k).mono ?_
  rintro e w1 ⟨rfl, hf1⟩
  rw [hu.out]
  have hb := ((Blk.new w 30 _).alloc _).fr hf1 (by simp)
  have hb4 := (Blk.new _ 30 _).fr hf1 (by simp)
  simp only [World.size_alloc] at hb4
  obtain ⟨b0, b1, b2, b3, -⟩ := hb.cells4
  have h1 := h.fr (hf.trans hf1) (by simp) (by simp) (by simp)
  obtain ⟨-, -, c1⟩ := h1.slot hk
  go_wp2_with fail
  go_still_tail 8, (by kernel_rfl)
  have hdr := (hf.trans hf1).drew
  have h1d := h1.fr (Fr.drew (Fr.refl [] w1)) (by simp) (by simp) (by simp)
  have hb4 := hb4.drew
  go_wp2_with fail
  refine (with_any h1d k hk x true s.l[k].touched).mono ?_
  rintro e w2 ⟨gx', cx', gu', cu', gt', ct', rfl, h2, hf2⟩
  have hb4' := hb4.fr hf2 (by simp)
  clear b0 b1 b2 b3
  have hne1 : gx' ≠ w.heap.size + 1 := own_ne h2.x hb4' (by decide) gx' rfl
  have hne2 : gu' ≠ w.heap.size + 1 := own_ne h2.u hb4' (by decide) gu' rfl
  have hne3 : gt' ≠ w.heap.size + 1 := own_ne h2.t hb4' (by decide) gt' rfl
  obtain ⟨d0, d1, d2, d3, df⟩ := hb4'.cells4
  unfold refV
  go_wp2
  refine ret_name ?_; intro w5 hw5
  obtain ⟨h5, f5⟩ := hb4'.four hw5
  clear d0 d1 d2 d3 df hw5
  obtain ⟨d0, d1, d2, d3, -⟩ := h5.cells4
  exact bodyPost_ret (v := .tuple #[refV gx' cx' gu' cu' gt' ct' s.l.length s.hand, .bool true]) (by simp [results, Try.results29, go_sem, d0, d1, d2, d3, refV]) rfl
    ⟨gx', cx', gu', cu', gt', ct', rfl, h2.fr f5 (by simpa using hne1) (by simpa using hne2) (by simpa using hne3), (hdr.trans hf2).weak f5 (by simp)⟩

end Go.Proofs.Ytenilmcndapaeaa
