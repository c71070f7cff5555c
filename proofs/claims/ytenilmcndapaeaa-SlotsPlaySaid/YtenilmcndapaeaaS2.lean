import Derived.Test.YtenilmcndapaeaaSlots
namespace Go.Proofs.Ytenilmcndapaeaa
open Go.RowKit

theorem el37 : Elem Try.prog 37 3 (.int .i64 0) 1 8 := ⟨by kernel_rfl, by kernel_rfl, rfl, by omega⟩
def ints (l : List Nat) : List Value := l.map fun (k : Nat) => .int .i64 k
/-- The places below k that have something. -/
def SS.allTo (s : SS) (k : Nat) : List Nat := (List.range k).filter fun i => ((s.l[i]?).map (·.used)).getD false
def SS.all (s : SS) : List Nat := s.allTo s.l.length
theorem SS.allTo_succ (s : SS) (k : Nat) : s.allTo (k + 1) = s.allTo k ++ (if ((s.l[k]?).map (·.used)).getD false then [k] else []) := by
  unfold SS.allTo
  rw [List.range_succ, List.filter_append]
  simp [List.filter_cons]
theorem SS.allTo_le (s : SS) (k : Nat) : (s.allTo k).length ≤ k := by
  unfold SS.allTo
  exact Nat.le_trans (List.length_filter_le _ _) (by simp)

set_option maxHeartbeats 400000 in
theorem all_nil (w : World) :
    Calls Try.prog 15 #[.pointer none] w fun e w' => e = .returned (.slice none 0 0) ∧ w = w' := by
  go_enter Try.func15, Try.ntmps15
  go_wp2_with (go_at_call 17; refine (cap_nil _).mono ?_; rintro e w' ⟨rfl, rfl⟩)
  refine wp_loop_rounds 1 ?_; rw [rounds_succ]
  go_wp2
  go_ret
  exact ⟨rfl, rfl⟩

def AllTold (w : World) (l : List Nat) (e : Ending) (w' : World) : Prop :=
  ∃ v, e = .returned v ∧ w'.ownsRow w.heap.size 3 1 v l.length (ints l) ∧ Fr [] w w'

set_option maxHeartbeats 1000000 in
theorem all_any {w : World} {p b : Nat} {s : SS} (h : SlotsAt w p b s) :
    Calls Try.prog 15 #[.pointer (some ⟨p, 0, none⟩)] w (AllTold w s.all) := by
  have hl := h.len
  go_enter Try.func15, Try.ntmps15
  go_wp2_with (go_at_call 17; refine (cap_any h).mono ?_; rintro e w' ⟨rfl, rfl⟩)
  go_loopw [3, 7] (fun v i wr => ∃ k : Nat, k ≤ s.l.length ∧ i = .int .i64 k ∧ wr.ownsRow w.heap.size 3 1 v (s.allTo k).length (ints (s.allTo k)) ∧ Fr [] w wr) (fun _ i _ => s.l.length - (intOf i).toNat)
  case atStart => exact ⟨0, Nat.zero_le _, rfl, World.ownsRow_nil _ _ _ _, Fr.refl _ _⟩
  case round =>
    obtain ⟨k, hk, rfl, hown, hfr⟩ := hrel
    have h' := h.fr hfr (by simp) (by simp)
    have hsz := hfr.size
    have hal := s.allTo_le k
    by_cases hlt : k < s.l.length
    · obtain ⟨c0, c1, -, -⟩ := h'.cells
      obtain ⟨-, c3, -, -⟩ := h'.slot (List.getElem?_eq_getElem hlt)
      have hsucc := hid (s.allTo_succ k)
      have hm : maxLen = 9223372036854775807 := rfl
      have hm := hid hm
      by_cases hu : s.l[k].used = true
      · rw [hu] at c3
        have hu := hid hu
        go_wp2_with (at_builtin; refine wpList_app1 el37 rfl (.tmp 18) (.tmp 20) rfl hown rfl [.int .i64 k] rfl rfl (by simp [Value.oneCell']) (by rw [hm.out]; omega) (by omega) (by omega) ?_; intro v' w1 hown' hfr' hne)
        go_roundw
        case rel =>
          refine ⟨k + 1, by omega, by go_num, ?_, hfr.weak hfr' ?_⟩
          · have e : s.allTo (k + 1) = s.allTo k ++ [k] := by rw [hsucc.out]; simp [hlt, hu.out]
            rw [e]; simpa [ints] using hown'
          · intro x hx; have := hown.lt x (by simpa using hx); omega
        case measure => simp [intOf]; omega
      · have hu : s.l[k].used = false := by simpa using hu
        rw [hu] at c3
        have hu := hid hu
        go_wp2
        go_roundw
        case rel =>
          refine ⟨k + 1, by omega, by go_num, ?_, hfr⟩
          have e : s.allTo (k + 1) = s.allTo k := by rw [hsucc.out]; simp [hlt, hu.out]
          rw [e]; exact hown
        case measure => simp [intOf]; omega
    · have e : k = s.l.length := by omega
      subst e
      go_wp2
      go_ret
      exact ⟨_, rfl, hown, hfr⟩

theorem AllTold.len {w w' : World} {l : List Nat} {e : Ending} (h : AllTold w l e w') : ∃ v, e = .returned v ∧ w'.ownsRow w.heap.size 3 1 v l.length (ints l) ∧ Fr [] w w' := h

set_option maxHeartbeats 400000 in
theorem len_nil (w : World) :
    Calls Try.prog 11 #[.pointer none] w fun e w' => e = .returned (.int .i64 0) ∧ w = w' := by
  go_enter Try.func11, Try.ntmps11
  go_wp2_with (go_at_call 15; refine (all_nil _).mono ?_; rintro e w' ⟨rfl, rfl⟩)
  go_ret
  exact ⟨rfl, rfl⟩

set_option maxHeartbeats 400000 in
theorem len_any {w : World} {p b : Nat} {s : SS} (h : SlotsAt w p b s) :
    Calls Try.prog 11 #[.pointer (some ⟨p, 0, none⟩)] w fun e w' => e = .returned (.int .i64 s.all.length) ∧ Fr [] w w' := by
  go_enter Try.func11, Try.ntmps11
  go_wp2_with fail
  refine (all_any h).mono ?_
  rintro e w1 ⟨v, rfl, hown, hfr⟩
  rcases hown.2 with ⟨rfl, hn⟩ | ⟨g, cap, cur, rfl, -⟩
  · go_wp2
    go_ret
    exact ⟨by simp [hn], hfr⟩
  · go_wp2
    go_ret
    exact ⟨rfl, hfr⟩
end Go.Proofs.Ytenilmcndapaeaa
