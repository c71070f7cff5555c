import Derived.Test.YtenilmcndapaeaaL3
namespace Go.Proofs.Ytenilmcndapaeaa
open Go.RowKit

set_option maxRecDepth 100000 in
set_option maxHeartbeats 4000000 in
theorem play_out {w : World} {v : Value} (n : Int) (hn : n < 1 ∨ 64 < n) :
    Calls Try.prog 3 #[.int .i64 n, v] w fun e w' => e = .returned (.bool true) ∧ Fr [] w w' := by
  rcases hn with h | h
  · go_enter Try.func3, Try.ntmps3
    go_wp2_with fail
    refine (shown_any w).mono ?_
    rintro e w1 ⟨rfl, f1⟩
    go_wp2_with fail
    refine (new_no n (.inl h) w1).mono ?_
    rintro e w2 ⟨rfl, rfl⟩
    go_wp2_with fail
    refine (len_nil _).mono ?_
    rintro e w2 ⟨rfl, rfl⟩
    go_wp2_with fail
    go_ret
    exact ⟨rfl, f1⟩
  · go_enter Try.func3, Try.ntmps3
    go_wp2_with fail
    refine (shown_any w).mono ?_
    rintro e w1 ⟨rfl, f1⟩
    go_wp2_with fail
    refine (new_no n (.inr h) w1).mono ?_
    rintro e w2 ⟨rfl, rfl⟩
    go_wp2_with fail
    refine (len_nil _).mono ?_
    rintro e w2 ⟨rfl, rfl⟩
    go_wp2_with fail
    go_ret
    exact ⟨rfl, f1⟩
theorem play_any {w : World} {v : Value} {ds : List Dd} (h : DeedsAt w v ds) (n : Int) :
    Calls Try.prog 3 #[.int .i64 n, v] w fun e w' => e = .returned (.bool true) ∧ Fr [] w w' := by
  by_cases h1 : 1 ≤ n ∧ n ≤ 64
  · obtain ⟨m, rfl⟩ : ∃ m : Nat, n = m := ⟨n.toNat, by omega⟩
    exact play_in h m (by omega) (by omega)
  · exact play_out n (by omega)
end Go.Proofs.Ytenilmcndapaeaa
