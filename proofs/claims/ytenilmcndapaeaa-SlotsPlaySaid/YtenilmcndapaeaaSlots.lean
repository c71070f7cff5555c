import Derived.Test.YtenilmcndapaeaaRows
import Derived.Test.YtenilmcndapaeaaMem
namespace Go.Proofs.Ytenilmcndapaeaa
open Go.RowKit

structure Sl where
  x : ByteArray
  used : Bool
  touched : Bool
structure SS where
  l : List Sl
  hand : Nat
def encSl (s : Sl) : List Value := [.string s.x, .bool s.used, .bool s.touched]
theorem encSl_len (s : Sl) : (encSl s).length = 3 := rfl
theorem sl_x (l : List Sl) (i : Nat) : (l.flatMap encSl)[i * 3]? = (l[i]?).map (fun s => .string s.x) := by
  have := flat_get encSl_len l i 0 (by omega)
  simp only [Nat.add_zero] at this
  rw [this]; cases l[i]? <;> rfl
theorem sl_used (l : List Sl) (i : Nat) : (l.flatMap encSl)[i * 3 + 1]? = (l[i]?).map (fun s => .bool s.used) := by
  rw [flat_get encSl_len l i 1 (by omega)]; cases l[i]? <;> rfl
theorem sl_touched (l : List Sl) (i : Nat) : (l.flatMap encSl)[i * 3 + 2]? = (l[i]?).map (fun s => .bool s.touched) := by
  rw [flat_get encSl_len l i 2 (by omega)]; cases l[i]? <;> rfl

structure SlotsAt (w : World) (p b : Nat) (s : SS) : Prop where
  own : Blk w p 58 [.slice (some ⟨b, 0, none⟩) s.l.length s.l.length, .int .i64 s.hand]
  row : Blk w b 67 (s.l.flatMap encSl)
  hand : s.hand < s.l.length
  len : s.l.length ≤ 64
theorem SlotsAt.fr {w w' : World} {p b : Nat} {s : SS} {S : List Nat} (h : SlotsAt w p b s) (hf : Fr S w w') (hp : p ∉ S) (hb : b ∉ S) : SlotsAt w' p b s :=
  ⟨h.own.fr hf hp, h.row.fr hf hb, h.hand, h.len⟩
theorem SlotsAt.cells {w : World} {p b : Nat} {s : SS} (h : SlotsAt w p b s) : w.cell? ⟨p, 0, none⟩ = some (.slice (some ⟨b, 0, none⟩) s.l.length s.l.length) ∧ w.cell? ⟨p, 1, none⟩ = some (.int .i64 s.hand) ∧ w.frozen? ⟨p, 0, none⟩ = false ∧ w.frozen? ⟨p, 1, none⟩ = false :=
  ⟨h.own.cell rfl, h.own.cell rfl, h.own.free _, h.own.free _⟩
theorem SlotsAt.slot {w : World} {p b : Nat} {s : SS} (h : SlotsAt w p b s) {i : Nat} {a : Sl} (hi : s.l[i]? = some a) :
    w.cell? ⟨b, i * 3, none⟩ = some (.string a.x) ∧ w.cell? ⟨b, i * 3 + 1, none⟩ = some (.bool a.used) ∧ w.cell? ⟨b, i * 3 + 2, none⟩ = some (.bool a.touched) ∧ (∀ j, w.frozen? ⟨b, j, none⟩ = false) :=
  ⟨h.row.cell (by rw [sl_x, hi]; rfl), h.row.cell (by rw [sl_used, hi]; rfl), h.row.cell (by rw [sl_touched, hi]; rfl), fun j => h.row.free j⟩

/-- Has a slot something? -/
def SS.used (s : SS) (i : Int) : Bool := decide (0 ≤ i) && ((s.l[i.toNat]?).map (·.used)).getD false
theorem SS.used_true {s : SS} {i : Int} (h : s.used i = true) : ∃ (k : Nat) (a : Sl), i = k ∧ s.l[k]? = some a ∧ a.used = true ∧ k < s.l.length := by
  unfold SS.used at h
  simp only [Bool.and_eq_true, decide_eq_true_eq] at h
  obtain ⟨h0, h1⟩ := h
  refine ⟨i.toNat, ?_⟩
  cases hk : s.l[i.toNat]? with
  | none => simp [hk] at h1
  | some a => exact ⟨a, by omega, rfl, by simpa [hk] using h1, (List.getElem?_eq_some_iff.1 hk).1⟩

set_option maxHeartbeats 400000 in
theorem cap_nil (w : World) :
    Calls Try.prog 17 #[.pointer none] w fun e w' => e = .returned (.int .i64 0) ∧ w = w' := by
  go_enter Try.func17, Try.ntmps17
  go_wp2
  go_ret
  exact ⟨rfl, rfl⟩

set_option maxHeartbeats 400000 in
theorem cap_any {w : World} {p b : Nat} {s : SS} (h : SlotsAt w p b s) :
    Calls Try.prog 17 #[.pointer (some ⟨p, 0, none⟩)] w fun e w' => e = .returned (.int .i64 s.l.length) ∧ w = w' := by
  obtain ⟨c0, c1, -, -⟩ := h.cells
  have hl := h.len
  clear h
  go_enter Try.func17, Try.ntmps17
  go_wp2
  go_ret
  exact ⟨rfl, rfl⟩

set_option maxHeartbeats 400000 in
theorem at_nil (i : Int) (w : World) :
    Calls Try.prog 31 #[.pointer none, .int .i64 i] w fun e w' => e = .returned (.pointer none) ∧ w = w' := by
  by_cases h0 : i < 0
  · go_enter Try.func31, Try.ntmps31
    go_wp2_with (go_at_call 17; refine (cap_nil _).mono ?_; rintro e w' ⟨rfl, rfl⟩)
    go_ret
    exact ⟨rfl, rfl⟩
  · go_enter Try.func31, Try.ntmps31
    go_wp2_with (go_at_call 17; refine (cap_nil _).mono ?_; rintro e w' ⟨rfl, rfl⟩)
    go_ret
    exact ⟨rfl, rfl⟩

set_option maxHeartbeats 400000 in
theorem at_yes {w : World} {p b : Nat} {s : SS} (h : SlotsAt w p b s) (k : Nat) (a : Sl) (hk : s.l[k]? = some a) (hu : a.used = true) :
    Calls Try.prog 31 #[.pointer (some ⟨p, 0, none⟩), .int .i64 k] w fun e w' => e = .returned (.pointer (some ⟨b, k * 3, none⟩)) ∧ w = w' := by
  obtain ⟨c0, c1, -, -⟩ := h.cells
  obtain ⟨-, c3, -, -⟩ := h.slot hk
  rw [hu] at c3
  have hl := h.len
  have hlt : k < s.l.length := (List.getElem?_eq_some_iff.1 hk).1
  clear hk hu
  go_enter Try.func31, Try.ntmps31
  go_wp2_with (go_at_call 17; refine (cap_any h).mono ?_; rintro e w' ⟨rfl, rfl⟩)
  go_ret
  exact ⟨rfl, rfl⟩

set_option maxHeartbeats 400000 in
theorem at_no {w : World} {p b : Nat} {s : SS} (h : SlotsAt w p b s) (i : Int) (hu : s.used i = false) :
    Calls Try.prog 31 #[.pointer (some ⟨p, 0, none⟩), .int .i64 i] w fun e w' => e = .returned (.pointer none) ∧ w = w' := by
  obtain ⟨c0, c1, -, -⟩ := h.cells
  have hl := h.len
  by_cases h0 : i < 0
  · clear hu
    go_enter Try.func31, Try.ntmps31
    go_wp2
    go_ret
    exact ⟨rfl, rfl⟩
  · obtain ⟨k, rfl⟩ := Int.eq_ofNat_of_zero_le (by omega : 0 ≤ i)
    by_cases h1 : k < s.l.length
    · have hk : s.l[k]? = some s.l[k] := List.getElem?_eq_getElem h1
      have hu' : s.l[k].used = false := by
        unfold SS.used at hu; simp [h1] at hu; exact hu
      obtain ⟨-, c3, -, -⟩ := h.slot hk
      rw [hu'] at c3
      clear hu hk hu'
      go_enter Try.func31, Try.ntmps31
      go_wp2_with (go_at_call 17; refine (cap_any h).mono ?_; rintro e w' ⟨rfl, rfl⟩)
      go_ret
      exact ⟨rfl, rfl⟩
    · clear hu
      go_enter Try.func31, Try.ntmps31
      go_wp2_with (go_at_call 17; refine (cap_any h).mono ?_; rintro e w' ⟨rfl, rfl⟩)
      go_ret
      exact ⟨rfl, rfl⟩
end Go.Proofs.Ytenilmcndapaeaa
