import Derived.Test.YthnbdpcbagobhaaW12
import Derived.Test.YthnbdpcbagobhaaWI
namespace Go.Proofs.Ythnbdpcbagobhaa
open Go Go.RowKit Go.Proofs.MapL PPM Go.Proofs.YthnbdpcbagobhaaW.PrintWords

def nextT (X : List It) : Int := ((X.map (·.t)).min?).getD 0
theorem min_spec : ∀ {L : List Int} {m : Int}, m ∈ L → (∀ x ∈ L, m ≤ x) → L.min?.getD 0 = m := by
  intro L m h1 h2
  cases L with
  | nil => cases h1
  | cons a L =>
    rw [List.min?_cons', Option.getD_some]
    have key : ∀ (L : List Int) (a : Int), (L.foldl min a ∈ a :: L) ∧ ∀ x ∈ a :: L, L.foldl min a ≤ x := by
      intro L
      induction L with
      | nil => intro a; simp
      | cons b L ih =>
        intro a
        obtain ⟨i1, i2⟩ := ih (min a b)
        rw [List.foldl_cons]
        have m1 := Int.min_le_left a b
        have m2 := Int.min_le_right a b
        refine ⟨?_, fun x hx => ?_⟩
        · rcases List.mem_cons.1 i1 with h | h
          · rw [h, Int.min_def]; split <;> simp
          · simp [h]
        · have h3 := i2 (min a b) (by simp)
          rcases List.mem_cons.1 hx with rfl | hx
          · omega
          · rcases List.mem_cons.1 hx with rfl | hx
            · omega
            · exact i2 x (by simp [hx])
    obtain ⟨k1, k2⟩ := key L a
    have h3 := h2 _ k1
    have h4 := k2 _ h1
    omega
section
variable {w w' : World} {p g b c : Nat} {bs : List Nat} {tu : Int} {X Y : List It} {S : List Nat}
def nextV (X : List It) : Value := .tuple #[.int .u64 (nextT X), .bool (decide (0 < X.length))]
theorem next_any (h : WhAt w p g b c bs tu X) (hX : X.length < 1000000) : Calls Try.prog 16 #[.pointer (some ⟨p, 0, none⟩)] w fun r w' => r = .returned (nextV X) ∧ Fr [] w w' := by
  unfold nextV
  rcases Nat.eq_zero_or_pos X.length with h0 | h0
  · obtain rfl := List.eq_nil_of_length_eq_zero h0
    refine (next_none h).mono ?_
    rintro r w' ⟨rfl, rfl⟩
    exact ⟨rfl, Fr.refl _ _⟩
  · refine (next_calls h h0 hX).mono ?_
    rintro r w' ⟨m, rfl, ⟨h1, h2⟩, hf⟩
    refine ⟨?_, hf⟩
    have e : nextT X = m := min_spec h1 (fun x hx => by obtain ⟨y, hy, rfl⟩ := List.mem_map.1 hx; exact h2 y hy)
    rw [e]; simp [h0]
theorem next_due {X : List It} (h0 : 0 < X.length) (now : Int) : (nextT X ≤ now) ↔ 0 < (dueP X now).length := by
  obtain ⟨m, hm, hl⟩ : ∃ m ∈ X.map (·.t), ∀ x ∈ X.map (·.t), m ≤ x := by
    cases X with
    | nil => simp at h0
    | cons a X =>
      generalize hL : (a :: X).map (·.t) = L
      have hL0 : L ≠ [] := by rw [← hL]; simp
      clear hL h0
      induction L with
      | nil => exact absurd rfl hL0
      | cons y L ih =>
        by_cases hn : L = []
        · exact ⟨y, by simp, by simp [hn]⟩
        · obtain ⟨m, h1, h2⟩ := ih hn
          by_cases hy : y ≤ m
          · exact ⟨y, by simp, fun x hx => by rcases List.mem_cons.1 hx with rfl | hx; omega; have := h2 x hx; omega⟩
          · exact ⟨m, by simp [h1], fun x hx => by rcases List.mem_cons.1 hx with rfl | hx; omega; exact h2 x hx⟩
  have e : nextT X = m := min_spec hm hl
  rw [e, dueP_len, List.length_pos_iff_exists_mem]
  constructor
  · intro h
    obtain ⟨x, hx, rfl⟩ := List.mem_map.1 hm
    exact ⟨x, List.mem_filter.2 ⟨hx, by simpa using h⟩⟩
  · rintro ⟨x, hx⟩
    obtain ⟨h1, h2⟩ := List.mem_filter.1 hx
    have := hl x.t (List.mem_map.2 ⟨x, h1, rfl⟩)
    have h3 : x.t ≤ now := by simpa using h2
    omega
theorem left_next {X : List It} {now : Int} (h0 : 0 < (leftI X now).length) : now < nextT (leftI X now) := by
  rcases Int.lt_or_le now (nextT (leftI X now)) with h | h
  · exact h
  · have h1 := (next_due h0 now).1 h
    rw [dueP_len, List.length_pos_iff_exists_mem] at h1
    obtain ⟨x, hx⟩ := h1
    obtain ⟨h2, h3⟩ := List.mem_filter.1 hx
    obtain ⟨-, h4⟩ := List.mem_filter.1 h2
    simp_all
theorem due_left (X : List It) (now : Int) : (dueP X now).length + (leftI X now).length = X.length := by
  rw [dueP_len]
  unfold leftI
  induction X with
  | nil => rfl
  | cons x X ih => simp only [List.filter_cons]; cases decide (x.t ≤ now) <;> simp <;> omega
theorem left_due (X : List It) (now : Int) : dueP (leftI X now) now = [] := by
  apply List.eq_nil_of_length_eq_zero
  rw [dueP_len]
  unfold leftI
  rw [List.filter_filter]
  simp
theorem left_at {X : List It} (hI : Ids X) {now : Int} {q : Int × Int} (h : q ∈ dueP X now) : atI (leftI X now) q.1 = none := by
  obtain ⟨x, hx, h1, h2, h3⟩ := dueP_mem h
  refine List.find?_eq_none.2 fun y hy => ?_
  obtain ⟨h4, h5⟩ := List.mem_filter.1 hy
  intro h6
  have h7 := ids_one hI hx h4 (h1.trans (by simpa using h6 : y.i = q.1).symm)
  subst h7
  simp_all
end
end Go.Proofs.Ythnbdpcbagobhaa
