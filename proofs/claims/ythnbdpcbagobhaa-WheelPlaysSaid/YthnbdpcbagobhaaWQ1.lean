import Derived.Test.YthnbdpcbagobhaaW14
namespace Go.Proofs.Ythnbdpcbagobhaa
open Go Go.RowKit Go.Proofs.MapL PPM Go.Proofs.YthnbdpcbagobhaaW.PrintWords

def It.s (x : It) : S61 := ⟨x.i, x.t⟩
def ltI (a b : It) : Bool := ltT (pairI a) (pairI b)
theorem less_f (a b : It) : derrickref11_less.f a.i a.t b.i b.t = some (ltI a b) := by
  unfold derrickref11_less.f ltI ltT pairI
  by_cases h1 : a.t < b.t
  · rw [if_pos h1, decide_eq_true h1, Bool.true_or]
  · rw [if_neg h1, decide_eq_false h1, Bool.false_or]
    by_cases h2 : a.t = b.t
    · rw [if_pos h2, decide_eq_true h2, Bool.true_and]
    · rw [if_neg h2, decide_eq_false h2, Bool.false_and]
theorem rd_i {X : List It} {i : Nat} (h : i < X.length) : rd_T61 (X.map It.s) (i : Int) = (X[i]).s := by
  unfold rd_T61
  simp [List.getD_eq_getElem?_getD, h]
def insI : List It → It → List It
  | [], q => [q]
  | x :: xs, q => if ltI x q then x :: insI xs q else q :: x :: xs
theorem insI_perm (ks : List It) (q : It) : (insI ks q).Perm (q :: ks) := by
  induction ks with
  | nil => exact List.Perm.refl _
  | cons x xs ih =>
    unfold insI
    split
    · exact (ih.cons x).trans (List.Perm.swap q x xs)
    · exact List.Perm.refl _
abbrev SrtI (l : List It) : Prop := l.Pairwise fun a b => (!ltI b a) = true
theorem insI_sorted {ks : List It} {q : It} (h : SrtI ks) : SrtI (insI ks q) := by
  induction ks with
  | nil => exact List.pairwise_singleton _ _
  | cons x xs ih =>
    unfold insI
    have hp := List.pairwise_cons.1 h
    split
    · rename_i hx
      refine List.pairwise_cons.2 ⟨?_, ih hp.2⟩
      intro y hy
      rcases List.mem_cons.1 ((insI_perm xs q).mem_iff.1 hy) with rfl | hy
      · unfold ltI at hx ⊢; simp [ltT_asymm hx]
      · exact hp.1 y hy
    · rename_i hx
      have hx : ltI x q = false := by simpa using hx
      refine List.pairwise_cons.2 ⟨?_, h⟩
      intro y hy
      rcases List.mem_cons.1 hy with rfl | hy
      · simp [hx]
      · have h2 : ltI y x = false := by simpa using hp.1 y hy
        unfold ltI at hx h2 ⊢
        simp [ltT_ntrans h2 hx]
theorem insI_at : ∀ (ks : List It) (q : It) (a : Nat) (ha : a ≤ ks.length), (∀ j (h : j < ks.length), j < a → ltI (ks[j]) q = true) → (∀ (h : a < ks.length), ltI (ks[a]) q = false) → ks.take a ++ q :: ks.drop a = insI ks q := by
  intro ks
  induction ks with
  | nil => intro q a ha _ _; simp at ha; subst ha; rfl
  | cons x xs ih =>
    intro q a ha h1 h2
    cases a with
    | zero =>
      have h3 := h2 (by simp)
      unfold insI
      rw [if_neg (by simpa using h3)]
      rfl
    | succ a =>
      have h3 := h1 0 (by simp) (by omega)
      unfold insI
      rw [if_pos (by simpa using h3)]
      have h4 := ih q a (by simpa using ha) (fun j hj hja => by have := h1 (j + 1) (by simpa using hj) (by omega); simpa using this) (fun h => by have := h2 (by simpa using h); simpa using this)
      rw [← h4]
      rfl
theorem insI_len (ks : List It) (q : It) : (insI ks q).length = ks.length + 1 := by rw [(insI_perm ks q).length_eq]; rfl
theorem del_l0 (X : List It) (id : Int) (hX : X.length < 1000000) : ∀ (d i k : Nat) (Y : List It) (is : Bool), X.length - i = d → i ≤ X.length → Y.length ≤ i → d + 1 ≤ k →
    derrickref11_Del.l0 k (X.map It.s) id (Y.map It.s) is i = some ((Y ++ delI (X.drop i) id).map It.s, is || (atI (X.drop i) id).isSome) := by
  intro d
  induction d with
  | zero =>
    intro i k Y is hd hi hY hk
    obtain ⟨k, rfl⟩ : ∃ m, k = m + 1 := ⟨k - 1, by omega⟩
    simp only [derrickref11_Del.l0]
    rw [if_neg (by simp; omega), List.drop_eq_nil_of_le (by omega)]
    simp [delI, atI]
  | succ d ih =>
    intro i k Y is hd hi hY hk
    obtain ⟨k, rfl⟩ : ∃ m, k = m + 1 := ⟨k - 1, by omega⟩
    have hlt : i < X.length := by omega
    simp only [derrickref11_Del.l0]
    rw [if_pos (by simpa using hlt), if_pos (by omega), rd_i hlt, w64 (by omega), show (i : Int) + 1 = ((i + 1 : Nat) : Int) by omega, List.drop_eq_getElem_cons hlt]
    by_cases hx : X[i].i = id
    · rw [if_pos (show X[i].s.f0 = id from hx), ih (i + 1) k Y true (by omega) (by omega) (by omega) (by omega)]
      unfold delI atI
      rw [List.filter_cons, List.find?_cons]
      simp [hx]
    · rw [if_neg (show ¬ X[i].s.f0 = id from hx), if_pos (by simp; omega)]
      have h2 := ih (i + 1) k (Y ++ [X[i]]) is (by omega) (by omega) (by simp; omega) (by omega)
      rw [List.map_append] at h2
      have e : (List.map It.s [X[i]] : List S61) = [⟨X[i].s.f0, X[i].s.f1⟩] := rfl
      rw [e] at h2
      rw [h2]
      unfold delI atI
      rw [List.filter_cons, List.find?_cons]
      have e1 : decide (X[i].i = id) = false := decide_eq_false hx
      simp [hx, e1]
theorem del_f (X : List It) (id : Int) (hX : X.length < 1000000) {k : Nat} (hk : X.length + 1 ≤ k) : derrickref11_Del.f k (X.map It.s) id = some ((delI X id).map It.s, (atI X id).isSome) := by
  unfold derrickref11_Del.f
  have := del_l0 X id hX X.length 0 k [] false (by omega) (by omega) (by simp) hk
  simpa using this
theorem at_l0 (X : List It) (id : Int) (hX : X.length < 1000000) : ∀ (d i k : Nat), X.length - i = d → i ≤ X.length → d + 1 ≤ k →
    derrickref11_At.l0 k (X.map It.s) id i = some ((((atI (X.drop i) id).map (·.t)).getD 0), (atI (X.drop i) id).isSome) := by
  intro d
  induction d with
  | zero =>
    intro i k hd hi hk
    obtain ⟨k, rfl⟩ : ∃ m, k = m + 1 := ⟨k - 1, by omega⟩
    simp only [derrickref11_At.l0]
    rw [if_neg (by simp; omega), List.drop_eq_nil_of_le (by omega)]
    rfl
  | succ d ih =>
    intro i k hd hi hk
    obtain ⟨k, rfl⟩ : ∃ m, k = m + 1 := ⟨k - 1, by omega⟩
    have hlt : i < X.length := by omega
    simp only [derrickref11_At.l0]
    rw [if_pos (by simpa using hlt), if_pos (by omega), rd_i hlt, w64 (by omega), show (i : Int) + 1 = ((i + 1 : Nat) : Int) by omega, List.drop_eq_getElem_cons hlt]
    unfold atI
    rw [List.find?_cons]
    by_cases hx : X[i].i = id
    · rw [if_pos (show X[i].s.f0 = id from hx), decide_eq_true hx]
      rfl
    · rw [if_neg (show ¬ X[i].s.f0 = id from hx), decide_eq_false hx]
      exact ih (i + 1) k (by omega) (by omega) (by omega)
theorem at_f (X : List It) (id : Int) (hX : X.length < 1000000) : derrickref11_At.f (X.length + 1) (X.map It.s) id = some ((((atI X id).map (·.t)).getD 0), (atI X id).isSome) := by
  unfold derrickref11_At.f
  have := at_l0 X id hX X.length 0 (X.length + 1) (by omega) (by omega) (by omega)
  simpa using this
theorem set_l0 (ks : List It) (q : It) (hX : ks.length < 1000000) : ∀ (d i k : Nat), ks.length - i = d → i ≤ ks.length → (∀ j (h : j < ks.length), j < i → ltI (ks[j]) q = true) → d + 1 ≤ k →
    derrickref11_Set.l0 k (ks.map It.s) ((ks.take i).map It.s) i q.i q.t = some ((insI ks q).map It.s) := by
  have hins : ∀ (a : Nat) (ha : a ≤ ks.length), ks.take a ++ q :: ks.drop a = insI ks q → ((((ks.take a).map It.s) ++ [(⟨q.i, q.t⟩ : S61)]) ++ (ks.map It.s).drop ((a : Int)).toNat) = (insI ks q).map It.s := by
    intro a ha he
    rw [← he]
    simp [List.map_take, List.map_drop, It.s]
  intro d
  induction d with
  | zero =>
    intro i k hd hi hp hk
    obtain ⟨k, rfl⟩ : ∃ m, k = m + 1 := ⟨k - 1, by omega⟩
    simp only [derrickref11_Set.l0]
    rw [if_neg (by simp; omega), if_pos (by simp; omega)]
    try simp only [Option.bind_some]
    rw [if_pos (by omega), if_pos (by simp; omega)]
    try simp only [Option.bind_some]
    rw [if_pos (by simp; omega), hins i hi (insI_at ks q i hi hp (fun h => by omega))]
  | succ d ih =>
    intro i k hd hi hp hk
    obtain ⟨k, rfl⟩ : ∃ m, k = m + 1 := ⟨k - 1, by omega⟩
    have hlt : i < ks.length := by omega
    simp only [derrickref11_Set.l0]
    rw [if_pos (by simpa using hlt), if_pos (by omega), rd_i hlt]
    have hl : derrickref11_less.f (ks[i]).s.f0 (ks[i]).s.f1 q.i q.t = some (ltI (ks[i]) q) := less_f _ _
    rw [hl]
    try simp only [Option.bind_some]
    cases hq : ltI (ks[i]) q
    · rw [if_neg (by simp), if_pos (by simp; omega)]
      try simp only [Option.bind_some]
      rw [if_pos (by simp; omega)]
      try simp only [Option.bind_some]
      rw [if_pos (by simp; omega), hins i hi (insI_at ks q i hi hp (fun h => hq))]
    · rw [if_pos rfl, if_pos (by simp; omega), w64 (by omega), show (i : Int) + 1 = ((i + 1 : Nat) : Int) by omega]
      have h2 := ih (i + 1) k (by omega) (by omega) (fun j hj hji => by
        rcases Nat.lt_or_ge j i with h | h
        · exact hp j hj h
        · have : j = i := by omega
          subst this; exact hq) (by omega)
      rw [List.take_succ_eq_append_getElem hlt, List.map_append] at h2
      exact h2
theorem set_f (X : List It) (q : It) (hX : X.length < 1000000) : derrickref11_Set.f (X.length + 1) (X.map It.s) q.i q.t = some ((insI (delI X q.i) q).map It.s) := by
  unfold derrickref11_Set.f
  rw [del_f X q.i hX (Nat.le_refl _)]
  simp only [Option.bind_some]
  have hl : (delI X q.i).length ≤ X.length := List.length_filter_le _ _
  have := set_l0 (delI X q.i) q (by omega) (delI X q.i).length 0 (X.length + 1) (by omega) (by omega) (by intro j h hj; omega) (by omega)
  simpa using this
theorem next_f (X : List It) (hs : SrtI X) : derrickref11_Next.f (X.map It.s) = some (nextT X, decide (0 < X.length)) := by
  unfold derrickref11_Next.f
  cases X with
  | nil => rfl
  | cons x xs =>
    rw [if_neg (by simp; omega), if_pos (by simp)]
    have e : rd_T61 ((x :: xs).map It.s) 0 = x.s := rfl
    have e2 : nextT (x :: xs) = x.t := min_spec (by simp) (fun t ht => by
      obtain ⟨y, hy, rfl⟩ := List.mem_map.1 ht
      rcases List.mem_cons.1 hy with rfl | hy
      · exact Int.le_refl _
      · have h2 := (List.pairwise_cons.1 hs).1 y hy
        have h3 : ltI y x = false := by simpa using h2
        have h4 : ¬ (y.t < x.t ∨ (y.t = x.t ∧ y.i < x.i)) := fun hh => by
          unfold ltI at h3; rw [(ltT_iff _ _).2 hh] at h3; cases h3
        show x.t ≤ y.t
        omega)
    rw [e, e2]
    simp [It.s]
/-- Sorted, what is due stands ahead. -/
theorem srt_split {X : List It} (hs : SrtI X) (now : Int) : ∃ n, n ≤ X.length ∧ (∀ j (h : j < X.length), j < n → X[j].t ≤ now) ∧ (∀ (h : n < X.length), ¬ X[n].t ≤ now) ∧ X.drop n = leftI X now ∧ (X.take n) = X.filter fun x => decide (x.t ≤ now) := by
  induction X with
  | nil => exact ⟨0, by simp, by simp, by simp, rfl, rfl⟩
  | cons x xs ih =>
    obtain ⟨hp, hps⟩ := List.pairwise_cons.1 hs
    by_cases hx : x.t ≤ now
    · obtain ⟨n, h1, h2, h3, h4, h5⟩ := ih hps
      refine ⟨n + 1, by simpa using h1, fun j hj hjn => ?_, fun h => by simpa using h3 (by simpa using h), ?_, ?_⟩
      · cases j with
        | zero => simpa using hx
        | succ j => simpa using h2 j (by simpa using hj) (by omega)
      · unfold leftI at h4 ⊢
        rw [List.drop_succ_cons, h4, List.filter_cons, if_neg (by simp [hx])]
      · rw [List.take_succ_cons, h5, List.filter_cons, if_pos (by simp [hx])]
    · have hall : ∀ y ∈ x :: xs, ¬ y.t ≤ now := by
        intro y hy
        rcases List.mem_cons.1 hy with rfl | hy
        · exact hx
        · have h3 : ltI y x = false := by simpa using hp y hy
          have h4 : ¬ (y.t < x.t ∨ (y.t = x.t ∧ y.i < x.i)) := fun hh => by
            unfold ltI at h3; rw [(ltT_iff _ _).2 hh] at h3; cases h3
          omega
      refine ⟨0, by simp, by simp, fun _ => by simpa using hx, ?_, ?_⟩
      · unfold leftI
        rw [List.drop_zero, List.filter_eq_self.2 (fun y hy => by simpa using hall y hy)]
      · rw [List.take_zero, List.filter_eq_nil_iff.2 (fun y hy => by simpa using hall y hy)]
theorem nextT_perm {X Y : List It} (h : X.Perm Y) (hs : SrtI Y) : nextT X = nextT Y := by
  cases Y with
  | nil => rw [List.Perm.eq_nil h]
  | cons y ys =>
    obtain ⟨m, hm, hl⟩ : ∃ m ∈ (y :: ys).map (·.t), ∀ t ∈ (y :: ys).map (·.t), m ≤ t := by
      refine ⟨y.t, by simp, fun t ht => ?_⟩
      obtain ⟨z, hz, rfl⟩ := List.mem_map.1 ht
      rcases List.mem_cons.1 hz with rfl | hz
      · exact Int.le_refl _
      · have h2 := (List.pairwise_cons.1 hs).1 z hz
        have h3 : ltI z y = false := by simpa using h2
        have h4 : ¬ (z.t < y.t ∨ (z.t = y.t ∧ z.i < y.i)) := fun hh => by
          unfold ltI at h3; rw [(ltT_iff _ _).2 hh] at h3; cases h3
        show y.t ≤ z.t
        omega
    have hp := h.map (·.t)
    have e1 : nextT (y :: ys) = m := min_spec hm hl
    have e2 : nextT X = m := min_spec (hp.mem_iff.2 hm) (fun t ht => hl t (hp.mem_iff.1 ht))
    rw [e1, e2]
theorem srt_due {X Y : List It} (h : X.Perm Y) (hs : SrtI Y) (now : Int) : (dueP X now) = (Y.filter fun x => decide (x.t ≤ now)).map pairI := by
  have hp : ((X.filter fun x => decide (x.t ≤ now)).map pairI).Perm ((Y.filter fun x => decide (x.t ≤ now)).map pairI) := (h.filter _).map _
  unfold dueP
  rw [sort_perm hp]
  have hs2 : ((Y.filter fun x => decide (x.t ≤ now)).map pairI).Pairwise fun a b => (!ltT b a) = true := by
    rw [List.pairwise_map]; exact hs.filter _
  exact List.mergeSort_of_pairwise hs2
end Go.Proofs.Ythnbdpcbagobhaa
