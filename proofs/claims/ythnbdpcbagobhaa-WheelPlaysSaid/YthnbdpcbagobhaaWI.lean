import Derived.Test.YthnbdpcbagobhaaMem
import Derived.Test.YthnbdpcbagobhaaPPa
namespace Go.Proofs.Ythnbdpcbagobhaa
open Go Go.RowKit PPM Go.Proofs.YthnbdpcbagobhaaW.PrintWords

theorem fr_below {w w' : World} (h : Below w.heap.size w w') : Fr [] w w' := ⟨h.os, h.tape, h.output, h.size, fun k hk _ => h.block k hk⟩
theorem fr_drawn {w w' : World} (h : Drawn0 w w') : Fr [] w w' := fr_below h.below
/-- A row of whole numbers of the call's own, as the words have it. -/
theorem own_CI {w : World} {base : Nat} {v : Value} {ks : List Int} (h : w.ownsRow base 3 1 v ks.length (ks.map fun x => .int .i64 x)) (hl : ks.length ≤ 9223372036854775807) : ∃ A c, v = .slice A ks.length c ∧ ks.length ≤ c ∧ Kd.C (Kd.int .i64) w A ks.length ks := by
  have h0 := h
  rcases h.2 with ⟨rfl, hn⟩ | ⟨g, cap, cur, rfl, -, hgg, hnc, -⟩
  · have : ks = [] := List.eq_nil_of_length_eq_zero hn
    subst this
    exact ⟨none, 0, rfl, Nat.le_refl _, Kd.C_nil _ _⟩
  · refine ⟨some ⟨g, 0, none⟩, cap, by simp, by simpa using hnc, by simp, by simpa using hl, fun _ => ⟨_, rfl, ?_⟩⟩
    intro j q hj
    obtain ⟨hjl, rfl⟩ := List.getElem?_eq_some_iff.1 hj
    refine ⟨[.int .i64 ks[j]], rfl, rfl, ?_⟩
    intro i u hu
    have hi : i < 1 := (List.getElem?_eq_some_iff.1 hu).1
    have hi0 : i = 0 := by omega
    subst hi0
    have e : (⟨g, 0, none⟩ : Addr).add (j * (Kd.int .i64).sz + 0) = ⟨g, j, none⟩ := by
      show (⟨g, 0, none⟩ : Addr).add (j * 1 + 0) = _
      unfold Addr.add; split <;> simp_all
    rw [e]
    have h2 := h0.cellAt j (by omega)
    rw [h2, List.getElem?_map, List.getElem?_eq_getElem hjl]
    exact hu
theorem w64 {x : Int} (h : 0 ≤ x ∧ x < 9223372036854775808) : wrap64 x = x := by unfold wrap64; omega
theorem rd_at {xs : List Int} {i : Nat} (h : i < xs.length) : rd xs (i : Int) = xs[i] := by
  unfold rd; simp [h]
theorem ints_l0 (xs ys : List Int) (he : xs.length = ys.length) (hl : xs.length < 1000000) : ∀ (d i k : Nat), xs.length - i = d → i ≤ xs.length → d + 1 ≤ k → derrickref09_Ints.l0 k xs ys i = some (decide (xs.drop i = ys.drop i)) := by
  intro d
  induction d with
  | zero =>
    intro i k hd hi hk
    obtain ⟨k, rfl⟩ : ∃ m, k = m + 1 := ⟨k - 1, by omega⟩
    have he2 : i = xs.length := by omega
    simp only [derrickref09_Ints.l0]
    rw [if_neg (by omega), List.drop_eq_nil_of_le (by omega), List.drop_eq_nil_of_le (by omega)]
    rfl
  | succ d ih =>
    intro i k hd hi hk
    obtain ⟨k, rfl⟩ : ∃ m, k = m + 1 := ⟨k - 1, by omega⟩
    have hlt : i < xs.length := by omega
    have hly : i < ys.length := by omega
    simp only [derrickref09_Ints.l0]
    have h2 := ih (i + 1) k (by omega) (by omega) (by omega)
    rw [if_pos (by omega), if_pos (by omega), if_pos (by omega), rd_at hlt, rd_at hly, w64 (by omega), List.drop_eq_getElem_cons hlt, List.drop_eq_getElem_cons hly]
    by_cases hx : xs[i] = ys[i]
    · rw [if_pos hx]
      rw [show (i : Int) + 1 = ((i + 1 : Nat) : Int) by omega, h2]
      simp only [List.cons.injEq, hx, true_and]
    · rw [if_neg hx]
      simp only [List.cons.injEq, hx, false_and, decide_false]
theorem ints_f (xs ys : List Int) (hl : xs.length < 1000000) : derrickref09_Ints.f (xs.length + 1) xs ys = some (decide (xs = ys)) := by
  unfold derrickref09_Ints.f
  by_cases he : xs.length = ys.length
  · rw [if_pos (by omega)]
    have := ints_l0 xs ys he hl xs.length 0 (xs.length + 1) (by omega) (by omega) (by omega)
    simpa using this
  · rw [if_neg (by omega)]
    have : ¬ xs = ys := fun h => he (by rw [h])
    simp [this]
/-- Are two rows the same? -/
theorem ints_own {w : World} {b1 b2 : Nat} {v1 v2 : Value} {xs ys : List Int} (h1 : w.ownsRow b1 3 1 v1 xs.length (xs.map fun x => .int .i64 x)) (h2 : w.ownsRow b2 3 1 v2 ys.length (ys.map fun x => .int .i64 x)) (hl : xs.length < 1000000) (hl2 : ys.length < 1000000) :
    Calls Try.prog 18 #[v1, v2] w fun r w' => r = .returned (.bool (decide (xs = ys))) ∧ Fr [] w w' := by
  obtain ⟨A1, c1, rfl, hc1, hk1⟩ := own_CI h1 (by omega)
  obtain ⟨A2, c2, rfl, hc2, hk2⟩ := own_CI h2 (by omega)
  refine (derrickref09_Ints.calls _ A1 c1 xs A2 c2 ys _ w hk1 hc1 hk2 hc2 (ints_f xs ys hl)).mono ?_
  rintro r w' ⟨rfl, hd⟩
  exact ⟨rfl, fr_drawn hd⟩
end Go.Proofs.Ythnbdpcbagobhaa
