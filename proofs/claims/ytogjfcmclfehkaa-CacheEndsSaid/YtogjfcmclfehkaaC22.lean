import Derived.Test.YtogjfcmclfehkaaC21
import Derived.Test.YtogjfcmclfehkaaPPs
namespace Go.Proofs.Ytogjfcmclfehkaa
open Go Go.RowKit Go.Proofs.MapL PPM Go.Proofs.YtogjfcmclfehkaaW.PrintWords

/-! ### Same and Asks of the same -/
theorem w64 {n : Nat} (h : n < 9223372036854775807) : wrap64 ((n : Int) + 1) = ((n + 1 : Nat) : Int) := by
  unfold wrap64; omega
theorem same_l (n : ByteArray) (t c : Int) (l : List S72) (x y z : Int) (hl : l.length ≤ 9223372036854775807) : ∀ (d i k : Nat), l.length - i = d → i ≤ l.length → d < k → derrickref12_Same.l0 k (i : Int) n t c l x y z n t c l x y z = some true := by
  intro d
  induction d with
  | zero =>
    intro i k hd hi hk
    obtain ⟨k, rfl⟩ : ∃ m, k = m + 1 := ⟨k - 1, by omega⟩
    simp only [derrickref12_Same.l0]
    rw [if_neg (by omega)]
  | succ d ih =>
    intro i k hd hi hk
    obtain ⟨k, rfl⟩ : ∃ m, k = m + 1 := ⟨k - 1, by omega⟩
    simp only [derrickref12_Same.l0]
    rw [if_pos (by omega), if_pos (by omega), if_pos (by omega), if_neg (by simp), w64 (by omega)]
    exact ih (i + 1) k (by omega) (by omega) (by omega)
theorem same_self (n : ByteArray) (t c : Int) (l : List S72) (x y z : Int) {k : Nat} (hl : l.length + 1 < k) (hk : l.length ≤ 9223372036854775807) : derrickref12_Same.f k n t c l x y z n t c l x y z = some true := by
  obtain ⟨k, rfl⟩ : ∃ m, k = m + 1 := ⟨k - 1, by omega⟩
  unfold derrickref12_Same.f
  rw [if_pos rfl, if_neg (by simp), if_pos rfl, if_pos rfl]
  simp only [derrickref12_Same.j0]
  rw [if_neg (by simp)]
  exact same_l n t c l x y z (by omega) l.length 0 k (by omega) (by omega) (by omega)
/-- An entry is the same as itself. -/
theorem same_calls {w : World} {e : En} (h : RdE w e) : Calls Try.prog 15 #[e.v, e.v] w fun r w' => r = .returned (.bool true) ∧ Fr [] w w' := by
  obtain ⟨l, h1, h2, h3⟩ := h.r
  have hc := derrickref12_Same.calls (l.length + 2) e.q.name e.q.ty e.q.cl e.ra e.rc l e.rcode e.rank e.expire e.q.name e.q.ty e.q.cl e.ra e.rc l e.rcode e.rank e.expire true w h3 h2 h3 h2 (same_self _ _ _ _ _ _ _ (by omega) h3.2.1)
  rw [← h1] at hc
  exact hc.mono fun _ _ h => ⟨h.1, fr_below h.2⟩
end Go.Proofs.Ytogjfcmclfehkaa
