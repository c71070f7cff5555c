import Derived.Test.YtenilmcndapaeaaQ1
namespace Go.Proofs.Ytenilmcndapaeaa
open Go.RowKit

theorem Blk.four_alloc {w w2 : World} {q T : Nat} {a b c d a' b' c' d' : Value} {o : Obj} (h : Blk w q T [a, b, c, d])
    (hw : w2 = ((((w.setCell ⟨q, 0, none⟩ a').setCell ⟨q, 1, none⟩ b').setCell ⟨q, 2, none⟩ c').setCell ⟨q, 3, none⟩ d').alloc o) : Blk w2 q T [a', b', c', d'] ∧ Fr [q] w w2 := by
  subst hw
  obtain ⟨h1, h2⟩ := h.four rfl
  exact ⟨h1.alloc _, h2.alloc _⟩

structure Dd where
  kind : Int
  i : Int
  x : ByteArray
def Dd.v (d : Dd) : Value := .agg #[.int .i64 d.kind, .int .i64 d.i, .string d.x]
def SS.does (s : SS) (d : Dd) : SS :=
  if d.kind = 0 then (s.put d.x).1 else if d.kind = 1 then s else if d.kind = 2 then s.touch d.i else if d.kind = 3 then s.free d.i else if d.kind = 4 then s.set d.i d.x else s.victim.1

theorem SlotsAt.refl_ne {w : World} {p b gx cx gu cu gt ct : Nat} {s t : SS} (h : SlotsAt w p b s) (hr : RefAt w gx cx gu cu gt ct t) :
    gx ∉ [p, b] ∧ gu ∉ [p, b] ∧ gt ∉ [p, b] := by
  refine ⟨?_, ?_, ?_⟩
  · simp only [List.mem_cons, List.not_mem_nil, or_false, not_or]; exact ⟨own_ne hr.x h.own (by decide) gx rfl, own_ne hr.x h.row (by decide) gx rfl⟩
  · simp only [List.mem_cons, List.not_mem_nil, or_false, not_or]; exact ⟨own_ne hr.u h.own (by decide) gu rfl, own_ne hr.u h.row (by decide) gu rfl⟩
  · simp only [List.mem_cons, List.not_mem_nil, or_false, not_or]; exact ⟨own_ne hr.t h.own (by decide) gt rfl, own_ne hr.t h.row (by decide) gt rfl⟩

/-- What a deed of both leaves. -/
def DoTold (w : World) (p b : Nat) (s t : SS) (d : Dd) (e : Ending) (w' : World) : Prop :=
  ∃ (gx cx gu cu gt ct : Nat) (r : Bool), e = .returned (.tuple #[refV gx cx gu cu gt ct (t.does d).l.length (t.does d).hand, .bool r]) ∧
    SlotsAt w' p b (s.does d) ∧ RefAt w' gx cx gu cu gt ct (t.does d) ∧ (s = t → r = true) ∧ Fr [p, b] w w'

set_option maxRecDepth 100000 in
set_option maxHeartbeats 4000000 in
theorem do0 {w : World} {p b gx cx gu cu gt ct : Nat} {s t : SS} (h : SlotsAt w p b s) (hr : RefAt w gx cx gu cu gt ct t) (i : Int) (x : ByteArray) :
    Calls Try.prog 13 #[.pointer (some ⟨p, 0, none⟩), refV gx cx gu cu gt ct t.l.length t.hand, .agg #[.int .i64 0, .int .i64 i, .string x]] w (DoTold w p b s t ⟨0, i, x⟩) := by
  unfold refV
  have hlp := h.own.lt
  have hlb := h.row.lt
  have hdt : Hid (t.does ⟨0, i, x⟩ = (t.put x).1) := hid (by simp [SS.does])
  have hds : Hid (s.does ⟨0, i, x⟩ = (s.put x).1) := hid (by simp [SS.does])
  go_enter Try.func13, Try.ntmps13
  go_wp2_with fail
  have hf0 := (((Fr.refl [] w).alloc (.cells #[.slice (some ⟨gx, 0, none⟩) t.l.length cx, .slice (some ⟨gu, 0, none⟩) t.l.length cu, .slice (some ⟨gt, 0, none⟩) t.l.length ct, .int .i64 t.hand] 30)).alloc (.cells #[.int .i64 0, .int .i64 i, .string x] 35)).alloc (.cells #[.slice none 0 0, .slice none 0 0, .slice none 0 0, .int .i64 0] 30)
  refine (put_any (h.fr hf0 (by simp) (by simp)) x).mono ?_
  rintro e w1 ⟨rfl, hs1, hf1⟩
  have hr1 := (hr.fr hf0 (by simp) (by simp) (by simp)).fr hf1 (h.refl_ne hr).1 (h.refl_ne hr).2.1 (h.refl_ne hr).2.2
  have hbx := (((Blk.new w 30 _).alloc _).alloc _).fr hf1 (by simp; omega)
  have hbd := ((Blk.new _ 35 _).alloc _).fr hf1 (by simp; omega)
  have hbr := (Blk.new _ 30 _).fr hf1 (by simp; omega)
  simp only [World.size_alloc] at hbd hbr
  obtain ⟨b0, b1, b2, b3, -⟩ := hbx.cells4
  have d1 := hbd.cell (i := 1) rfl
  have d2 := hbd.cell (i := 2) rfl
  go_wp2_with fail
  refine (rput_any hr1 x).mono ?_
  rintro e w2 ⟨gx', cx', gu', cu', gt', ct', rfl, hr2, hf2⟩
  have hs2 := hs1.fr hf2 (by simp) (by simp)
  have hbr2 := hbr.fr hf2 (by simp)
  have F2 := (hf0.mono (T := [p, b]) (by simp)).trans (hf1.trans (hf2.mono (by simp)))
  clear b0 b1 b2 b3 d1 d2 hbx hbd hbr hr1 hs1 hf1 hf2
  obtain ⟨r0, r1, r2, r3, rf⟩ := hbr2.cells4
  have hlt2 : w.heap.size + 1 + 1 < w2.heap.size := hbr2.lt
  have m1 : gx' ≠ w.heap.size + 1 + 1 := own_ne hr2.x hbr2 (by decide) gx' rfl
  have m2 : gu' ≠ w.heap.size + 1 + 1 := own_ne hr2.u hbr2 (by decide) gu' rfl
  have m3 : gt' ≠ w.heap.size + 1 + 1 := own_ne hr2.t hbr2 (by decide) gt' rfl
  unfold refV
  go_wp2_with fail
  · clear r0 r1 r2 r3 rf
    refine ret_name ?_; intro w5 hw5
    obtain ⟨h5, f5⟩ := hbr2.four_alloc hw5
    clear hw5
    obtain ⟨r0, r1, r2, r3, -⟩ := h5.cells4
    refine bodyPost_ret (v := .tuple #[refV gx' cx' gu' cu' gt' ct' ((t.put x).1).l.length ((t.put x).1).hand, .bool ((((s.put x).2.2 : Nat) : Int) == ((t.put x).2.2 : Nat))]) (by simp [results, Try.results13, go_sem, r0, r1, r2, r3, refV]) rfl
      ⟨gx', cx', gu', cu', gt', ct', _, by rw [hdt.out], by rw [hds.out]; exact hs2.fr f5 (by simp; omega) (by simp; omega), by rw [hdt.out]; exact hr2.fr f5 (by simpa using m1) (by simpa using m2) (by simpa using m3), ?_, F2.weak f5 (by simp; omega)⟩
    rintro rfl; simp
  · clear r0 r1 r2 r3 rf
    refine ret_name ?_; intro w5 hw5
    obtain ⟨h5, f5⟩ := hbr2.four_alloc hw5
    clear hw5
    obtain ⟨r0, r1, r2, r3, -⟩ := h5.cells4
    refine bodyPost_ret (v := .tuple #[refV gx' cx' gu' cu' gt' ct' ((t.put x).1).l.length ((t.put x).1).hand, .bool (false)]) (by simp [results, Try.results13, go_sem, r0, r1, r2, r3, refV]) rfl
      ⟨gx', cx', gu', cu', gt', ct', _, by rw [hdt.out], by rw [hds.out]; exact hs2.fr f5 (by simp; omega) (by simp; omega), by rw [hdt.out]; exact hr2.fr f5 (by simpa using m1) (by simpa using m2) (by simpa using m3), ?_, F2.weak f5 (by simp; omega)⟩
    have hne : ¬ (((s.put x).2.1 : Nat) : Int) = (((t.put x).2.1 : Nat) : Int) := by assumption
    rintro rfl; exact absurd rfl hne

set_option maxRecDepth 100000 in
set_option maxHeartbeats 4000000 in
theorem do1 {w : World} {p b gx cx gu cu gt ct : Nat} {s t : SS} (h : SlotsAt w p b s) (hr : RefAt w gx cx gu cu gt ct t) (i : Int) (x : ByteArray) :
    Calls Try.prog 13 #[.pointer (some ⟨p, 0, none⟩), refV gx cx gu cu gt ct t.l.length t.hand, .agg #[.int .i64 1, .int .i64 i, .string x]] w (DoTold w p b s t ⟨1, i, x⟩) := by
  unfold refV
  have hlp := h.own.lt
  have hlb := h.row.lt
  have hdt : Hid (t.does ⟨1, i, x⟩ = t) := hid (by simp [SS.does])
  have hds : Hid (s.does ⟨1, i, x⟩ = s) := hid (by simp [SS.does])
  go_enter Try.func13, Try.ntmps13
  go_wp2_with fail
  have hf0 := (((Fr.refl [] w).alloc (.cells #[.slice (some ⟨gx, 0, none⟩) t.l.length cx, .slice (some ⟨gu, 0, none⟩) t.l.length cu, .slice (some ⟨gt, 0, none⟩) t.l.length ct, .int .i64 t.hand] 30)).alloc (.cells #[.int .i64 1, .int .i64 i, .string x] 35)).alloc (.cells #[.slice none 0 0, .slice none 0 0, .slice none 0 0, .int .i64 0] 30)
  refine (get_any (h.fr hf0 (by simp) (by simp)) i).mono ?_
  rintro e w1 ⟨rfl, rfl⟩
  have hs1 := h.fr hf0 (by simp) (by simp)
  have hf1 := Fr.refl [p, b] ((((w.alloc (.cells #[.slice (some ⟨gx, 0, none⟩) t.l.length cx, .slice (some ⟨gu, 0, none⟩) t.l.length cu, .slice (some ⟨gt, 0, none⟩) t.l.length ct, .int .i64 t.hand] 30)).alloc (.cells #[.int .i64 1, .int .i64 i, .string x] 35)).alloc (.cells #[.slice none 0 0, .slice none 0 0, .slice none 0 0, .int .i64 0] 30)))
  have hr1 := (hr.fr hf0 (by simp) (by simp) (by simp)).fr hf1 (h.refl_ne hr).1 (h.refl_ne hr).2.1 (h.refl_ne hr).2.2
  have hbx := (((Blk.new w 30 _).alloc _).alloc _).fr hf1 (by simp; omega)
  have hbd := ((Blk.new _ 35 _).alloc _).fr hf1 (by simp; omega)
  have hbr := (Blk.new _ 30 _).fr hf1 (by simp; omega)
  simp only [World.size_alloc] at hbd hbr
  obtain ⟨b0, b1, b2, b3, -⟩ := hbx.cells4
  have d1 := hbd.cell (i := 1) rfl
  have d2 := hbd.cell (i := 2) rfl
  go_wp2_with fail
  refine (rget_any hr1 i).mono ?_
  rintro e w2 ⟨rfl, hf2⟩
  have hr2 := hr1.fr hf2 (by simp) (by simp) (by simp)
  have hs2 := hs1.fr hf2 (by simp) (by simp)
  have hbr2 := hbr.fr hf2 (by simp)
  have F2 := (hf0.mono (T := [p, b]) (by simp)).trans (hf1.trans (hf2.mono (by simp)))
  have hbx2 := hbx.fr hf2 (by simp)
  clear b0 b1 b2 b3 d1 d2 hbx hbd hbr hr1 hs1 hf1 hf2
  obtain ⟨r0, r1, r2, r3, rf⟩ := hbr2.cells4
  obtain ⟨b0, b1, b2, b3, -⟩ := hbx2.cells4
  have hlt2 : w.heap.size + 1 + 1 < w2.heap.size := hbr2.lt
  have m1 : gx ≠ w.heap.size + 1 + 1 := own_ne hr2.x hbr2 (by decide) gx rfl
  have m2 : gu ≠ w.heap.size + 1 + 1 := own_ne hr2.u hbr2 (by decide) gu rfl
  have m3 : gt ≠ w.heap.size + 1 + 1 := own_ne hr2.t hbr2 (by decide) gt rfl
  go_wp2_with fail
  · clear r0 r1 r2 r3 rf
    refine ret_name ?_; intro w5 hw5
    obtain ⟨h5, f5⟩ := hbr2.four hw5
    clear hw5
    obtain ⟨r0, r1, r2, r3, -⟩ := h5.cells4
    refine bodyPost_ret (v := .tuple #[refV gx cx gu cu gt ct (t).l.length (t).hand, .bool ((s.get i).2 == (t.get i).2)]) (by simp [results, Try.results13, go_sem, r0, r1, r2, r3, refV]) rfl
      ⟨gx, cx, gu, cu, gt, ct, _, by rw [hdt.out], by rw [hds.out]; exact hs2.fr f5 (by simp; omega) (by simp; omega), by rw [hdt.out]; exact hr2.fr f5 (by simpa using m1) (by simpa using m2) (by simpa using m3), ?_, F2.weak f5 (by simp; omega)⟩
    rintro rfl; simp
  · clear r0 r1 r2 r3 rf
    refine ret_name ?_; intro w5 hw5
    obtain ⟨h5, f5⟩ := hbr2.four hw5
    clear hw5
    obtain ⟨r0, r1, r2, r3, -⟩ := h5.cells4
    refine bodyPost_ret (v := .tuple #[refV gx cx gu cu gt ct (t).l.length (t).hand, .bool (false)]) (by simp [results, Try.results13, go_sem, r0, r1, r2, r3, refV]) rfl
      ⟨gx, cx, gu, cu, gt, ct, _, by rw [hdt.out], by rw [hds.out]; exact hs2.fr f5 (by simp; omega) (by simp; omega), by rw [hdt.out]; exact hr2.fr f5 (by simpa using m1) (by simpa using m2) (by simpa using m3), ?_, F2.weak f5 (by simp; omega)⟩
    have hne : ¬ (s.get i).1.toList = (t.get i).1.toList := by assumption
    rintro rfl; exact absurd rfl hne

set_option maxRecDepth 100000 in
set_option maxHeartbeats 4000000 in
theorem do2 {w : World} {p b gx cx gu cu gt ct : Nat} {s t : SS} (h : SlotsAt w p b s) (hr : RefAt w gx cx gu cu gt ct t) (i : Int) (x : ByteArray) :
    Calls Try.prog 13 #[.pointer (some ⟨p, 0, none⟩), refV gx cx gu cu gt ct t.l.length t.hand, .agg #[.int .i64 2, .int .i64 i, .string x]] w (DoTold w p b s t ⟨2, i, x⟩) := by
  unfold refV
  have hlp := h.own.lt
  have hlb := h.row.lt
  have hdt : Hid (t.does ⟨2, i, x⟩ = (t.touch i)) := hid (by simp [SS.does])
  have hds : Hid (s.does ⟨2, i, x⟩ = (s.touch i)) := hid (by simp [SS.does])
  go_enter Try.func13, Try.ntmps13
  go_wp2_with fail
  have hf0 := (((Fr.refl [] w).alloc (.cells #[.slice (some ⟨gx, 0, none⟩) t.l.length cx, .slice (some ⟨gu, 0, none⟩) t.l.length cu, .slice (some ⟨gt, 0, none⟩) t.l.length ct, .int .i64 t.hand] 30)).alloc (.cells #[.int .i64 2, .int .i64 i, .string x] 35)).alloc (.cells #[.slice none 0 0, .slice none 0 0, .slice none 0 0, .int .i64 0] 30)
  refine (touch_any (h.fr hf0 (by simp) (by simp)) i).mono ?_
  rintro e w1 ⟨rfl, hs1, hf1⟩
  have hr1 := (hr.fr hf0 (by simp) (by simp) (by simp)).fr hf1 (h.refl_ne hr).1 (h.refl_ne hr).2.1 (h.refl_ne hr).2.2
  have hbx := (((Blk.new w 30 _).alloc _).alloc _).fr hf1 (by simp; omega)
  have hbd := ((Blk.new _ 35 _).alloc _).fr hf1 (by simp; omega)
  have hbr := (Blk.new _ 30 _).fr hf1 (by simp; omega)
  simp only [World.size_alloc] at hbd hbr
  obtain ⟨b0, b1, b2, b3, -⟩ := hbx.cells4
  have d1 := hbd.cell (i := 1) rfl
  have d2 := hbd.cell (i := 2) rfl
  go_wp2_with fail
  refine (rtouch_any hr1 i).mono ?_
  rintro e w2 ⟨gx', cx', gu', cu', gt', ct', rfl, hr2, hf2⟩
  have hs2 := hs1.fr hf2 (by simp) (by simp)
  have hbr2 := hbr.fr hf2 (by simp)
  have F2 := (hf0.mono (T := [p, b]) (by simp)).trans (hf1.trans (hf2.mono (by simp)))
  clear b0 b1 b2 b3 d1 d2 hbx hbd hbr hr1 hs1 hf1 hf2
  obtain ⟨r0, r1, r2, r3, rf⟩ := hbr2.cells4
  have hlt2 : w.heap.size + 1 + 1 < w2.heap.size := hbr2.lt
  have m1 : gx' ≠ w.heap.size + 1 + 1 := own_ne hr2.x hbr2 (by decide) gx' rfl
  have m2 : gu' ≠ w.heap.size + 1 + 1 := own_ne hr2.u hbr2 (by decide) gu' rfl
  have m3 : gt' ≠ w.heap.size + 1 + 1 := own_ne hr2.t hbr2 (by decide) gt' rfl
  unfold refV
  go_wp2_with fail
  · clear r0 r1 r2 r3 rf
    refine ret_name ?_; intro w5 hw5
    obtain ⟨h5, f5⟩ := hbr2.four_alloc hw5
    clear hw5
    obtain ⟨r0, r1, r2, r3, -⟩ := h5.cells4
    refine bodyPost_ret (v := .tuple #[refV gx' cx' gu' cu' gt' ct' ((t.touch i)).l.length ((t.touch i)).hand, .bool (s.used i == t.used i)]) (by simp [results, Try.results13, go_sem, r0, r1, r2, r3, refV]) rfl
      ⟨gx', cx', gu', cu', gt', ct', _, by rw [hdt.out], by rw [hds.out]; exact hs2.fr f5 (by simp; omega) (by simp; omega), by rw [hdt.out]; exact hr2.fr f5 (by simpa using m1) (by simpa using m2) (by simpa using m3), ?_, F2.weak f5 (by simp; omega)⟩
    rintro rfl; simp

set_option maxRecDepth 100000 in
set_option maxHeartbeats 4000000 in
theorem do3 {w : World} {p b gx cx gu cu gt ct : Nat} {s t : SS} (h : SlotsAt w p b s) (hr : RefAt w gx cx gu cu gt ct t) (i : Int) (x : ByteArray) :
    Calls Try.prog 13 #[.pointer (some ⟨p, 0, none⟩), refV gx cx gu cu gt ct t.l.length t.hand, .agg #[.int .i64 3, .int .i64 i, .string x]] w (DoTold w p b s t ⟨3, i, x⟩) := by
  unfold refV
  have hlp := h.own.lt
  have hlb := h.row.lt
  have hdt : Hid (t.does ⟨3, i, x⟩ = (t.free i)) := hid (by simp [SS.does])
  have hds : Hid (s.does ⟨3, i, x⟩ = (s.free i)) := hid (by simp [SS.does])
  go_enter Try.func13, Try.ntmps13
  go_wp2_with fail
  have hf0 := (((Fr.refl [] w).alloc (.cells #[.slice (some ⟨gx, 0, none⟩) t.l.length cx, .slice (some ⟨gu, 0, none⟩) t.l.length cu, .slice (some ⟨gt, 0, none⟩) t.l.length ct, .int .i64 t.hand] 30)).alloc (.cells #[.int .i64 3, .int .i64 i, .string x] 35)).alloc (.cells #[.slice none 0 0, .slice none 0 0, .slice none 0 0, .int .i64 0] 30)
  refine (free_any (h.fr hf0 (by simp) (by simp)) i).mono ?_
  rintro e w1 ⟨rfl, hs1, hf1⟩
  have hr1 := (hr.fr hf0 (by simp) (by simp) (by simp)).fr hf1 (h.refl_ne hr).1 (h.refl_ne hr).2.1 (h.refl_ne hr).2.2
  have hbx := (((Blk.new w 30 _).alloc _).alloc _).fr hf1 (by simp; omega)
  have hbd := ((Blk.new _ 35 _).alloc _).fr hf1 (by simp; omega)
  have hbr := (Blk.new _ 30 _).fr hf1 (by simp; omega)
  simp only [World.size_alloc] at hbd hbr
  obtain ⟨b0, b1, b2, b3, -⟩ := hbx.cells4
  have d1 := hbd.cell (i := 1) rfl
  have d2 := hbd.cell (i := 2) rfl
  go_wp2_with fail
  refine (rfree_any hr1 i).mono ?_
  rintro e w2 ⟨gx', cx', gu', cu', gt', ct', rfl, hr2, hf2⟩
  have hs2 := hs1.fr hf2 (by simp) (by simp)
  have hbr2 := hbr.fr hf2 (by simp)
  have F2 := (hf0.mono (T := [p, b]) (by simp)).trans (hf1.trans (hf2.mono (by simp)))
  clear b0 b1 b2 b3 d1 d2 hbx hbd hbr hr1 hs1 hf1 hf2
  obtain ⟨r0, r1, r2, r3, rf⟩ := hbr2.cells4
  have hlt2 : w.heap.size + 1 + 1 < w2.heap.size := hbr2.lt
  have m1 : gx' ≠ w.heap.size + 1 + 1 := own_ne hr2.x hbr2 (by decide) gx' rfl
  have m2 : gu' ≠ w.heap.size + 1 + 1 := own_ne hr2.u hbr2 (by decide) gu' rfl
  have m3 : gt' ≠ w.heap.size + 1 + 1 := own_ne hr2.t hbr2 (by decide) gt' rfl
  unfold refV
  go_wp2_with fail
  · clear r0 r1 r2 r3 rf
    refine ret_name ?_; intro w5 hw5
    obtain ⟨h5, f5⟩ := hbr2.four_alloc hw5
    clear hw5
    obtain ⟨r0, r1, r2, r3, -⟩ := h5.cells4
    refine bodyPost_ret (v := .tuple #[refV gx' cx' gu' cu' gt' ct' ((t.free i)).l.length ((t.free i)).hand, .bool (s.used i == t.used i)]) (by simp [results, Try.results13, go_sem, r0, r1, r2, r3, refV]) rfl
      ⟨gx', cx', gu', cu', gt', ct', _, by rw [hdt.out], by rw [hds.out]; exact hs2.fr f5 (by simp; omega) (by simp; omega), by rw [hdt.out]; exact hr2.fr f5 (by simpa using m1) (by simpa using m2) (by simpa using m3), ?_, F2.weak f5 (by simp; omega)⟩
    rintro rfl; simp

set_option maxRecDepth 100000 in
set_option maxHeartbeats 4000000 in
theorem do4 {w : World} {p b gx cx gu cu gt ct : Nat} {s t : SS} (h : SlotsAt w p b s) (hr : RefAt w gx cx gu cu gt ct t) (i : Int) (x : ByteArray) :
    Calls Try.prog 13 #[.pointer (some ⟨p, 0, none⟩), refV gx cx gu cu gt ct t.l.length t.hand, .agg #[.int .i64 4, .int .i64 i, .string x]] w (DoTold w p b s t ⟨4, i, x⟩) := by
  unfold refV
  have hlp := h.own.lt
  have hlb := h.row.lt
  have hdt : Hid (t.does ⟨4, i, x⟩ = (t.set i x)) := hid (by simp [SS.does])
  have hds : Hid (s.does ⟨4, i, x⟩ = (s.set i x)) := hid (by simp [SS.does])
  go_enter Try.func13, Try.ntmps13
  go_wp2_with fail
  have hf0 := (((Fr.refl [] w).alloc (.cells #[.slice (some ⟨gx, 0, none⟩) t.l.length cx, .slice (some ⟨gu, 0, none⟩) t.l.length cu, .slice (some ⟨gt, 0, none⟩) t.l.length ct, .int .i64 t.hand] 30)).alloc (.cells #[.int .i64 4, .int .i64 i, .string x] 35)).alloc (.cells #[.slice none 0 0, .slice none 0 0, .slice none 0 0, .int .i64 0] 30)
  refine (set_any (h.fr hf0 (by simp) (by simp)) i x).mono ?_
  rintro e w1 ⟨rfl, hs1, hf1⟩
  have hr1 := (hr.fr hf0 (by simp) (by simp) (by simp)).fr hf1 (h.refl_ne hr).1 (h.refl_ne hr).2.1 (h.refl_ne hr).2.2
  have hbx := (((Blk.new w 30 _).alloc _).alloc _).fr hf1 (by simp; omega)
  have hbd := ((Blk.new _ 35 _).alloc _).fr hf1 (by simp; omega)
  have hbr := (Blk.new _ 30 _).fr hf1 (by simp; omega)
  simp only [World.size_alloc] at hbd hbr
  obtain ⟨b0, b1, b2, b3, -⟩ := hbx.cells4
  have d1 := hbd.cell (i := 1) rfl
  have d2 := hbd.cell (i := 2) rfl
  go_wp2_with fail
  refine (rset_any hr1 i x).mono ?_
  rintro e w2 ⟨gx', cx', gu', cu', gt', ct', rfl, hr2, hf2⟩
  have hs2 := hs1.fr hf2 (by simp) (by simp)
  have hbr2 := hbr.fr hf2 (by simp)
  have F2 := (hf0.mono (T := [p, b]) (by simp)).trans (hf1.trans (hf2.mono (by simp)))
  clear b0 b1 b2 b3 d1 d2 hbx hbd hbr hr1 hs1 hf1 hf2
  obtain ⟨r0, r1, r2, r3, rf⟩ := hbr2.cells4
  have hlt2 : w.heap.size + 1 + 1 < w2.heap.size := hbr2.lt
  have m1 : gx' ≠ w.heap.size + 1 + 1 := own_ne hr2.x hbr2 (by decide) gx' rfl
  have m2 : gu' ≠ w.heap.size + 1 + 1 := own_ne hr2.u hbr2 (by decide) gu' rfl
  have m3 : gt' ≠ w.heap.size + 1 + 1 := own_ne hr2.t hbr2 (by decide) gt' rfl
  unfold refV
  go_wp2_with fail
  · clear r0 r1 r2 r3 rf
    refine ret_name ?_; intro w5 hw5
    obtain ⟨h5, f5⟩ := hbr2.four_alloc hw5
    clear hw5
    obtain ⟨r0, r1, r2, r3, -⟩ := h5.cells4
    refine bodyPost_ret (v := .tuple #[refV gx' cx' gu' cu' gt' ct' ((t.set i x)).l.length ((t.set i x)).hand, .bool (s.used i == t.used i)]) (by simp [results, Try.results13, go_sem, r0, r1, r2, r3, refV]) rfl
      ⟨gx', cx', gu', cu', gt', ct', _, by rw [hdt.out], by rw [hds.out]; exact hs2.fr f5 (by simp; omega) (by simp; omega), by rw [hdt.out]; exact hr2.fr f5 (by simpa using m1) (by simpa using m2) (by simpa using m3), ?_, F2.weak f5 (by simp; omega)⟩
    rintro rfl; simp

set_option maxRecDepth 100000 in
set_option maxHeartbeats 4000000 in
theorem do5 {w : World} {p b gx cx gu cu gt ct : Nat} {s t : SS} (h : SlotsAt w p b s) (hr : RefAt w gx cx gu cu gt ct t) (i : Int) (x : ByteArray) (kind : Int) (k0 : kind ≠ 0) (k1 : kind ≠ 1) (k2 : kind ≠ 2) (k3 : kind ≠ 3) (k4 : kind ≠ 4) :
    Calls Try.prog 13 #[.pointer (some ⟨p, 0, none⟩), refV gx cx gu cu gt ct t.l.length t.hand, .agg #[.int .i64 kind, .int .i64 i, .string x]] w (DoTold w p b s t ⟨kind, i, x⟩) := by
  unfold refV
  have hlp := h.own.lt
  have hlb := h.row.lt
  have hdt : Hid (t.does ⟨kind, i, x⟩ = (t.victim.1)) := hid (by simp [SS.does, k0, k1, k2, k3, k4])
  have hds : Hid (s.does ⟨kind, i, x⟩ = (s.victim.1)) := hid (by simp [SS.does, k0, k1, k2, k3, k4])
  go_enter Try.func13, Try.ntmps13
  go_wp2_with fail
  have hf0 := (((Fr.refl [] w).alloc (.cells #[.slice (some ⟨gx, 0, none⟩) t.l.length cx, .slice (some ⟨gu, 0, none⟩) t.l.length cu, .slice (some ⟨gt, 0, none⟩) t.l.length ct, .int .i64 t.hand] 30)).alloc (.cells #[.int .i64 kind, .int .i64 i, .string x] 35)).alloc (.cells #[.slice none 0 0, .slice none 0 0, .slice none 0 0, .int .i64 0] 30)
  refine (victim_any (h.fr hf0 (by simp) (by simp))).mono ?_
  rintro e w1 ⟨rfl, hs1, hf1⟩
  have hr1 := (hr.fr hf0 (by simp) (by simp) (by simp)).fr hf1 (h.refl_ne hr).1 (h.refl_ne hr).2.1 (h.refl_ne hr).2.2
  have hbx := (((Blk.new w 30 _).alloc _).alloc _).fr hf1 (by simp; omega)
  have hbd := ((Blk.new _ 35 _).alloc _).fr hf1 (by simp; omega)
  have hbr := (Blk.new _ 30 _).fr hf1 (by simp; omega)
  simp only [World.size_alloc] at hbd hbr
  obtain ⟨b0, b1, b2, b3, -⟩ := hbx.cells4
  have d1 := hbd.cell (i := 1) rfl
  have d2 := hbd.cell (i := 2) rfl
  go_wp2_with fail
  refine (rvictim_any hr1).mono ?_
  rintro e w2 ⟨gx', cx', gu', cu', gt', ct', rfl, hr2, hf2⟩
  have hs2 := hs1.fr hf2 (by simp) (by simp)
  have hbr2 := hbr.fr hf2 (by simp)
  have F2 := (hf0.mono (T := [p, b]) (by simp)).trans (hf1.trans (hf2.mono (by simp)))
  clear b0 b1 b2 b3 d1 d2 hbx hbd hbr hr1 hs1 hf1 hf2
  obtain ⟨r0, r1, r2, r3, rf⟩ := hbr2.cells4
  have hlt2 : w.heap.size + 1 + 1 < w2.heap.size := hbr2.lt
  have m1 : gx' ≠ w.heap.size + 1 + 1 := own_ne hr2.x hbr2 (by decide) gx' rfl
  have m2 : gu' ≠ w.heap.size + 1 + 1 := own_ne hr2.u hbr2 (by decide) gu' rfl
  have m3 : gt' ≠ w.heap.size + 1 + 1 := own_ne hr2.t hbr2 (by decide) gt' rfl
  unfold refV
  go_wp2_with fail
  · clear r0 r1 r2 r3 rf
    refine ret_name ?_; intro w5 hw5
    obtain ⟨h5, f5⟩ := hbr2.four_alloc hw5
    clear hw5
    obtain ⟨r0, r1, r2, r3, -⟩ := h5.cells4
    refine bodyPost_ret (v := .tuple #[refV gx' cx' gu' cu' gt' ct' ((t.victim.1)).l.length ((t.victim.1)).hand, .bool (s.victim.2.2 == t.victim.2.2)]) (by simp [results, Try.results13, go_sem, r0, r1, r2, r3, refV]) rfl
      ⟨gx', cx', gu', cu', gt', ct', _, by rw [hdt.out], by rw [hds.out]; exact hs2.fr f5 (by simp; omega) (by simp; omega), by rw [hdt.out]; exact hr2.fr f5 (by simpa using m1) (by simpa using m2) (by simpa using m3), ?_, F2.weak f5 (by simp; omega)⟩
    rintro rfl; simp
  · clear r0 r1 r2 r3 rf
    refine ret_name ?_; intro w5 hw5
    obtain ⟨h5, f5⟩ := hbr2.four_alloc hw5
    clear hw5
    obtain ⟨r0, r1, r2, r3, -⟩ := h5.cells4
    refine bodyPost_ret (v := .tuple #[refV gx' cx' gu' cu' gt' ct' ((t.victim.1)).l.length ((t.victim.1)).hand, .bool (false)]) (by simp [results, Try.results13, go_sem, r0, r1, r2, r3, refV]) rfl
      ⟨gx', cx', gu', cu', gt', ct', _, by rw [hdt.out], by rw [hds.out]; exact hs2.fr f5 (by simp; omega) (by simp; omega), by rw [hdt.out]; exact hr2.fr f5 (by simpa using m1) (by simpa using m2) (by simpa using m3), ?_, F2.weak f5 (by simp; omega)⟩
    have hne : ¬ ((s.victim.2.1 : Nat) : Int) = ((t.victim.2.1 : Nat) : Int) := by assumption
    rintro rfl; exact absurd rfl hne

theorem do_any {w : World} {p b gx cx gu cu gt ct : Nat} {s t : SS} (h : SlotsAt w p b s) (hr : RefAt w gx cx gu cu gt ct t) (d : Dd) :
    Calls Try.prog 13 #[.pointer (some ⟨p, 0, none⟩), refV gx cx gu cu gt ct t.l.length t.hand, d.v] w (DoTold w p b s t d) := by
  obtain ⟨kind, i, x⟩ := d
  unfold Dd.v
  by_cases k0 : kind = 0
  · subst k0; exact do0 h hr i x
  by_cases k1 : kind = 1
  · subst k1; exact do1 h hr i x
  by_cases k2 : kind = 2
  · subst k2; exact do2 h hr i x
  by_cases k3 : kind = 3
  · subst k3; exact do3 h hr i x
  by_cases k4 : kind = 4
  · subst k4; exact do4 h hr i x
  exact do5 h hr i x kind k0 k1 k2 k3 k4
end Go.Proofs.Ytenilmcndapaeaa
