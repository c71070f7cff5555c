import Derived.Test.YtenilmcndapaeaaS2
namespace Go.Proofs.Ytenilmcndapaeaa
open Go.RowKit

def SS.at (s : SS) (k : Nat) (a : Sl) : SS := { s with l := s.l.set k a }
theorem SlotsAt.at {w w' : World} {p b : Nat} {s : SS} (h : SlotsAt w p b s) {k : Nat} {a : Sl} (hrow : Blk w' b 67 ((s.l.set k a).flatMap encSl)) (hf : Fr [b] w w') : SlotsAt w' p b (s.at k a) := by
  have hne : p ≠ b := h.own.ne h.row (by decide)
  refine ⟨?_, hrow, by simpa [SS.at] using h.hand, by simpa [SS.at] using h.len⟩
  have := h.own.fr hf (by simpa using hne)
  simpa [SS.at] using this

set_option maxHeartbeats 400000 in
theorem get_nil (i : Int) (w : World) :
    Calls Try.prog 22 #[.pointer none, .int .i64 i] w fun e w' => e = .returned (.tuple #[.string ⟨#[]⟩, .bool false]) ∧ w = w' := by
  go_enter Try.func22, Try.ntmps22
  go_wp2_with (go_at_call 31; refine (at_nil _ _).mono ?_; rintro e w' ⟨rfl, rfl⟩)
  go_ret2
  exact ⟨rfl, rfl⟩

set_option maxHeartbeats 400000 in
theorem get_no {w : World} {p b : Nat} {s : SS} (h : SlotsAt w p b s) (i : Int) (hu : s.used i = false) :
    Calls Try.prog 22 #[.pointer (some ⟨p, 0, none⟩), .int .i64 i] w fun e w' => e = .returned (.tuple #[.string ⟨#[]⟩, .bool false]) ∧ w = w' := by
  have hu := hid hu
  go_enter Try.func22, Try.ntmps22
  go_wp2_with (go_at_call 31; refine (at_no h _ hu.out).mono ?_; rintro e w' ⟨rfl, rfl⟩)
  go_ret2
  exact ⟨rfl, rfl⟩

set_option maxHeartbeats 400000 in
theorem get_yes {w : World} {p b : Nat} {s : SS} (h : SlotsAt w p b s) (k : Nat) (a : Sl) (hk : s.l[k]? = some a) (hu : a.used = true) :
    Calls Try.prog 22 #[.pointer (some ⟨p, 0, none⟩), .int .i64 k] w fun e w' => e = .returned (.tuple #[.string a.x, .bool true]) ∧ w = w' := by
  obtain ⟨c2, c3, -, -⟩ := h.slot hk
  have hk := hid hk
  have hu := hid hu
  go_enter Try.func22, Try.ntmps22
  go_wp2_with (go_at_call 31; refine (at_yes h _ _ hk.out hu.out).mono ?_; rintro e w' ⟨rfl, rfl⟩)
  go_ret2
  exact ⟨rfl, rfl⟩

set_option maxHeartbeats 400000 in
theorem touch_nil (i : Int) (w : World) :
    Calls Try.prog 20 #[.pointer none, .int .i64 i] w fun e w' => e = .returned (.bool false) ∧ w = w' := by
  go_enter Try.func20, Try.ntmps20
  go_wp2_with (go_at_call 31; refine (at_nil _ _).mono ?_; rintro e w' ⟨rfl, rfl⟩)
  go_ret
  exact ⟨rfl, rfl⟩
set_option maxHeartbeats 400000 in
theorem touch_no {w : World} {p b : Nat} {s : SS} (h : SlotsAt w p b s) (i : Int) (hu : s.used i = false) :
    Calls Try.prog 20 #[.pointer (some ⟨p, 0, none⟩), .int .i64 i] w fun e w' => e = .returned (.bool false) ∧ w = w' := by
  have hu := hid hu
  go_enter Try.func20, Try.ntmps20
  go_wp2_with (go_at_call 31; refine (at_no h _ hu.out).mono ?_; rintro e w' ⟨rfl, rfl⟩)
  go_ret
  exact ⟨rfl, rfl⟩
set_option maxHeartbeats 400000 in
theorem touch_yes {w : World} {p b : Nat} {s : SS} (h : SlotsAt w p b s) (k : Nat) (a : Sl) (hk : s.l[k]? = some a) (hu : a.used = true) :
    Calls Try.prog 20 #[.pointer (some ⟨p, 0, none⟩), .int .i64 k] w fun e w' => e = .returned (.bool true) ∧ SlotsAt w' p b (s.at k { a with touched := true }) ∧ Fr [b] w w' := by
  obtain ⟨c2, c3, c4, f⟩ := h.slot hk
  have hf : Fr [b] w (w.setCell ⟨b, k * 3 + 2, none⟩ (.bool true)) := (Fr.refl _ _).setCell (by simp) _
  have hfin := h.at (k := k) (a := { a with touched := true }) (by have := h.row.set (k * 3 + 2) (.bool true); rwa [flat_set encSl_len s.l k 2 a { a with touched := true } _ (by omega) hk rfl] at this) hf
  have hfin := hid (And.intro hfin hf)
  have hk := hid hk
  have hu := hid hu
  clear hf
  go_enter Try.func20, Try.ntmps20
  go_wp2_with (go_at_call 31; refine (at_yes h _ _ hk.out hu.out).mono ?_; rintro e w' ⟨rfl, rfl⟩)
  go_ret
  exact ⟨rfl, hfin.out⟩

set_option maxHeartbeats 400000 in
theorem set_nil (i : Int) (x : ByteArray) (w : World) :
    Calls Try.prog 24 #[.pointer none, .int .i64 i, .string x] w fun e w' => e = .returned (.bool false) ∧ w = w' := by
  go_enter Try.func24, Try.ntmps24
  go_wp2_with (go_at_call 31; refine (at_nil _ _).mono ?_; rintro e w' ⟨rfl, rfl⟩)
  go_ret
  exact ⟨rfl, rfl⟩
set_option maxHeartbeats 400000 in
theorem set_no {w : World} {p b : Nat} {s : SS} (h : SlotsAt w p b s) (i : Int) (x : ByteArray) (hu : s.used i = false) :
    Calls Try.prog 24 #[.pointer (some ⟨p, 0, none⟩), .int .i64 i, .string x] w fun e w' => e = .returned (.bool false) ∧ w = w' := by
  have hu := hid hu
  go_enter Try.func24, Try.ntmps24
  go_wp2_with (go_at_call 31; refine (at_no h _ hu.out).mono ?_; rintro e w' ⟨rfl, rfl⟩)
  go_ret
  exact ⟨rfl, rfl⟩
set_option maxHeartbeats 400000 in
theorem set_yes {w : World} {p b : Nat} {s : SS} (h : SlotsAt w p b s) (k : Nat) (a : Sl) (x : ByteArray) (hk : s.l[k]? = some a) (hu : a.used = true) :
    Calls Try.prog 24 #[.pointer (some ⟨p, 0, none⟩), .int .i64 k, .string x] w fun e w' => e = .returned (.bool true) ∧ SlotsAt w' p b (s.at k { a with x := x }) ∧ Fr [b] w w' := by
  obtain ⟨c2, c3, c4, f⟩ := h.slot hk
  have hf : Fr [b] w (w.setCell ⟨b, k * 3, none⟩ (.string x)) := (Fr.refl _ _).setCell (by simp) _
  have hfin := h.at (k := k) (a := { a with x := x }) (by have := h.row.set (k * 3 + 0) (.string x); rwa [flat_set encSl_len s.l k 0 a { a with x := x } _ (by omega) hk rfl] at this) hf
  have hfin := hid (And.intro hfin hf)
  have hk := hid hk
  have hu := hid hu
  clear hf
  go_enter Try.func24, Try.ntmps24
  go_wp2_with (go_at_call 31; refine (at_yes h _ _ hk.out hu.out).mono ?_; rintro e w' ⟨rfl, rfl⟩)
  go_ret
  exact ⟨rfl, hfin.out⟩

/-- A slot's three cells written, one behind the other. -/
theorem SlotsAt.whole {w : World} {p b : Nat} {s : SS} (h : SlotsAt w p b s) (k : Nat) (a n : Sl) (hk : s.l[k]? = some a) :
    SlotsAt (((w.setCell ⟨b, k * 3, none⟩ (.string n.x)).setCell ⟨b, k * 3 + 1, none⟩ (.bool n.used)).setCell ⟨b, k * 3 + 2, none⟩ (.bool n.touched)) p b (s.at k n) ∧
    Fr [b] w (((w.setCell ⟨b, k * 3, none⟩ (.string n.x)).setCell ⟨b, k * 3 + 1, none⟩ (.bool n.used)).setCell ⟨b, k * 3 + 2, none⟩ (.bool n.touched)) := by
  have hf : Fr [b] w (((w.setCell ⟨b, k * 3, none⟩ (.string n.x)).setCell ⟨b, k * 3 + 1, none⟩ (.bool n.used)).setCell ⟨b, k * 3 + 2, none⟩ (.bool n.touched)) :=
    (((Fr.refl _ _).setCell (by simp) _).setCell (by simp) _).setCell (by simp) _
  refine ⟨h.at ?_ hf, hf⟩
  have hlt : k < s.l.length := (List.getElem?_eq_some_iff.1 hk).1
  have h3 := ((h.row.set (k * 3 + 0) (.string n.x)).set (k * 3 + 1) (.bool n.used)).set (k * 3 + 2) (.bool n.touched)
  rw [flat_set encSl_len s.l k 0 a { a with x := n.x } _ (by omega) hk rfl,
    flat_set encSl_len (s.l.set k { a with x := n.x }) k 1 { a with x := n.x } { a with x := n.x, used := n.used } _ (by omega) (by simp [hlt]) rfl,
    flat_set encSl_len _ k 2 { a with x := n.x, used := n.used } n _ (by omega) (by simp [hlt]) rfl] at h3
  simpa using h3

set_option maxHeartbeats 400000 in
theorem free_nil (i : Int) (w : World) :
    Calls Try.prog 23 #[.pointer none, .int .i64 i] w fun e w' => e = .returned (.bool false) ∧ w = w' := by
  go_enter Try.func23, Try.ntmps23
  go_wp2_with (go_at_call 31; refine (at_nil _ _).mono ?_; rintro e w' ⟨rfl, rfl⟩)
  go_ret
  exact ⟨rfl, rfl⟩
set_option maxHeartbeats 400000 in
theorem free_no {w : World} {p b : Nat} {s : SS} (h : SlotsAt w p b s) (i : Int) (hu : s.used i = false) :
    Calls Try.prog 23 #[.pointer (some ⟨p, 0, none⟩), .int .i64 i] w fun e w' => e = .returned (.bool false) ∧ w = w' := by
  have hu := hid hu
  go_enter Try.func23, Try.ntmps23
  go_wp2_with (go_at_call 31; refine (at_no h _ hu.out).mono ?_; rintro e w' ⟨rfl, rfl⟩)
  go_ret
  exact ⟨rfl, rfl⟩
def Sl.none : Sl := ⟨⟨#[]⟩, false, false⟩
set_option maxHeartbeats 400000 in
theorem free_yes {w : World} {p b : Nat} {s : SS} (h : SlotsAt w p b s) (k : Nat) (a : Sl) (hk : s.l[k]? = some a) (hu : a.used = true) :
    Calls Try.prog 23 #[.pointer (some ⟨p, 0, none⟩), .int .i64 k] w fun e w' => e = .returned (.bool true) ∧ SlotsAt w' p b (s.at k Sl.none) ∧ Fr [b] w w' := by
  obtain ⟨c2, c3, c4, f⟩ := h.slot hk
  have hfin := hid (h.whole k a Sl.none hk)
  have hk := hid hk
  have hu := hid hu
  go_enter Try.func23, Try.ntmps23
  go_wp2_with (go_at_call 31; refine (at_yes h _ _ hk.out hu.out).mono ?_; rintro e w' ⟨rfl, rfl⟩)
  go_ret
  exact ⟨rfl, hfin.out⟩
end Go.Proofs.Ytenilmcndapaeaa
