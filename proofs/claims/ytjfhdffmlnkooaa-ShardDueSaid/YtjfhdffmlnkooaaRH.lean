import Derived.Test.YtjfhdffmlnkooaaS16
import Derived.Test.YtjfhdffmlnkooaaPPh
namespace Go.Proofs.Ytjfhdffmlnkooaa
open Go Go.RowKit Go.Proofs.MapL PPM Go.Proofs.YtjfhdffmlnkooaaW.PrintWords

theorem ba_ext2 {a b : ByteArray} (h : a.toList = b.toList) : a = b := ba_ext h
theorem q_eq (a b : Qn) : ((a.s.f0.toList == b.name.toList) && ((a.s.f1 == b.ty) && (a.s.f2 == b.cl))) = decide (a = b) := by
  rw [Bool.eq_iff_iff]
  simp only [Bool.and_eq_true, beq_iff_eq, decide_eq_true_eq]
  constructor
  · rintro ⟨h1, h2, h3⟩; exact qn_ext (ba_ext h1) h2 h3
  · rintro rfl; exact ⟨rfl, rfl, rfl⟩
theorem rd_q {X : List Qn} {i : Nat} (h : i < X.length) : rd_T25 (X.map Qn.s) (i : Int) = (X[i]).s := by
  unfold rd_T25
  simp [List.getD_eq_getElem?_getD, h]
theorem has_l (X : List Qn) (q : Qn) (hX : X.length < 4611686018427387904) : ∀ (d i k : Nat), X.length - i = d → i ≤ X.length → d < k →
    derricklaw12_has.l0 k (X.map Qn.s) (i : Int) q.name q.ty q.cl = some (decide (q ∈ X.drop i)) := by
  intro d
  induction d with
  | zero =>
    intro i k hd hi hk
    obtain ⟨k, rfl⟩ : ∃ m, k = m + 1 := ⟨k - 1, by omega⟩
    have he : i = X.length := by omega
    simp only [derricklaw12_has.l0]
    rw [if_neg (by simp [he])]
    subst he; simp
  | succ d ih =>
    intro i k hd hi hk
    obtain ⟨k, rfl⟩ : ∃ m, k = m + 1 := ⟨k - 1, by omega⟩
    have hlt : i < X.length := by omega
    simp only [derricklaw12_has.l0]
    rw [if_pos (by simpa using hlt), if_pos (by omega), rd_q hlt]
    have hq := q_eq (X[i]) q
    show (if ((X[i]).s.f0.toList == q.name.toList && ((X[i]).s.f1 == q.ty && (X[i]).s.f2 == q.cl)) = true then _ else _) = _
    rw [hq, List.drop_eq_getElem_cons hlt]
    by_cases he : X[i] = q
    · rw [if_pos (by simpa using he)]
      simp [he]
    · rw [if_neg (by simpa using he), w64 (by omega), ih (i + 1) k (by omega) (by omega) (by omega)]
      have hm : q ∈ X[i] :: X.drop (i + 1) ↔ q ∈ X.drop (i + 1) := by
        rw [List.mem_cons]
        exact ⟨fun h => h.resolve_left (Ne.symm he), .inr⟩
      exact congrArg some (decide_eq_decide.2 hm.symm)
theorem has_f (X : List Qn) (q : Qn) {k : Nat} (hX : X.length < k) (hk : k < 4611686018427387904) : derricklaw12_has.f k (X.map Qn.s) q.name q.ty q.cl = some (decide (q ∈ X)) :=
  has_l X q (by omega) X.length 0 k (by omega) (by omega) hX
/-- A begin of a row. -/
theorem C_take {α : Type} {d : Kd α} {w : World} {A : Option Addr} {xs : List α} (h : Kd.C d w A xs.length xs) (n : Nat) : Kd.C d w A (xs.take n).length (xs.take n) := by
  obtain ⟨h1, h2, h3⟩ := h
  refine ⟨rfl, by rw [List.length_take]; omega, fun h0 => ?_⟩
  rw [List.length_take] at h0
  obtain ⟨a, ha, h4⟩ := h3 (by omega)
  refine ⟨a, ha, fun i p hp => ?_⟩
  rw [List.getElem?_take] at hp
  split at hp
  · exact h4 i p hp
  · cases hp
theorem has_calls {w : World} {base : Nat} {v : Value} {ks : List Qn} (h : QRow w base v ks) (hl : ks.length < 1000000) (q : Qn) : Calls Try.prog 16 #[v, q.v] w fun r w' => r = .returned (.bool (decide (q ∈ ks))) ∧ Fr [] w w' := by
  obtain ⟨A, c, rfl, hc, hr⟩ := own_C h (by omega)
  exact (derricklaw12_has.calls (ks.length + 1) A c _ q.name q.ty q.cl _ w hr hc (has_f ks q (by omega) (by omega))).mono fun _ _ h => ⟨h.1, fr_below h.2⟩
/-- The questions ahead of the n-th. -/
theorem has_take {w : World} {base : Nat} {A : Option Addr} {c n : Nat} {ks : List Qn} (h : QRow w base (.slice A ks.length c) ks) (hl : ks.length < 1000000) (hn : n ≤ ks.length) (q : Qn) : Calls Try.prog 16 #[.slice A n c, q.v] w fun r w' => r = .returned (.bool (decide (q ∈ ks.take n))) ∧ Fr [] w w' := by
  obtain ⟨A', c', e, hc, hr⟩ := own_C h (by omega)
  simp only [Value.slice.injEq] at e
  obtain ⟨rfl, -, rfl⟩ := e
  have e1 : n = ((ks.take n).map Qn.s).length := by rw [List.length_map, List.length_take]; omega
  have hr2 : Kd.C k25 w A ((ks.take n).map Qn.s).length ((ks.take n).map Qn.s) := by
    rw [List.map_take]
    exact C_take hr n
  have h3 := derricklaw12_has.calls (ks.length + 1) A c _ q.name q.ty q.cl _ w hr2 (by rw [← e1]; simp at hc; omega) (has_f (ks.take n) q (by rw [List.length_take]; omega) (by omega))
  rw [← e1] at h3
  exact h3.mono fun _ _ h => ⟨h.1, fr_below h.2⟩
end Go.Proofs.Ytjfhdffmlnkooaa
