import Derived.Test.YtenilmcndapaeaaQ3
namespace Go.Proofs.Ytenilmcndapaeaa
open Go.RowKit

theorem fresh_none (n : Nat) (i : Int) : (SS.mk (List.replicate n Sl.none) 0).used i = false := by
  unfold SS.used
  by_cases h : i.toNat < n <;> simp [h, List.getElem?_replicate, Sl.none]
theorem fresh_all (n : Nat) : (SS.mk (List.replicate n Sl.none) 0).all.length = 0 := by
  have : (SS.mk (List.replicate n Sl.none) 0).all = [] := by
    unfold SS.all SS.allTo
    rw [List.filter_eq_nil_iff]
    intro i hi
    simp only [List.mem_range, List.length_replicate] at hi
    simp [List.getElem?_replicate, hi, Sl.none]
  rw [this]; rfl

set_option maxRecDepth 100000 in
set_option maxHeartbeats 1000000 in
theorem nobody_any (i : Int) (x : ByteArray) (w : World) : Calls Try.prog 7 #[.int .i64 i, .string x] w fun e w' => e = .returned (.bool true) ∧ Fr [] w w' := by
  go_enter Try.func7, Try.ntmps7
  go_wp2_with fail
  refine (shown_any w).mono ?_
  rintro e w1 ⟨rfl, f1⟩
  go_wp2_with fail
  refine (put_nil x w1).mono ?_
  rintro e w2 ⟨rfl, rfl⟩
  go_wp2_with fail
  refine (get_nil i w1).mono ?_
  rintro e w2 ⟨rfl, rfl⟩
  go_wp2_with fail
  refine (victim_nil w1).mono ?_
  rintro e w2 ⟨rfl, rfl⟩
  go_wp2_with fail
  refine (new_yes 3 (by omega) (by omega) w1).mono ?_
  rintro e w2 ⟨p, b, rfl, h2, f2, hp, hb⟩
  go_wp2_with fail
  refine (get_no h2 i (fresh_none _ _)).mono ?_
  rintro e w3 ⟨rfl, rfl⟩
  go_wp2_with fail
  refine (victim_no h2 (fresh_all _)).mono ?_
  rintro e w3 ⟨rfl, f3⟩
  have h3 := h2.fr f3 (by simp) (by simp)
  go_wp2_with fail
  refine (touch_nil i w3).mono ?_
  rintro e w4 ⟨rfl, rfl⟩
  go_wp2_with fail
  refine (set_nil i x w3).mono ?_
  rintro e w4 ⟨rfl, rfl⟩
  go_wp2_with fail
  refine (free_nil i w3).mono ?_
  rintro e w4 ⟨rfl, rfl⟩
  go_wp2_with fail
  refine (all_nil w3).mono ?_
  rintro e w4 ⟨rfl, rfl⟩
  go_wp2_with fail
  refine (cap_nil w3).mono ?_
  rintro e w4 ⟨rfl, rfl⟩
  go_wp2_with fail
  refine (touch_no h3 i (fresh_none _ _)).mono ?_
  rintro e w4 ⟨rfl, rfl⟩
  go_wp2_with fail
  refine (free_no h3 i (fresh_none _ _)).mono ?_
  rintro e w4 ⟨rfl, rfl⟩
  go_wp2_with fail
  go_ret
  exact ⟨rfl, f1.trans (f2.trans f3)⟩
end Go.Proofs.Ytenilmcndapaeaa
