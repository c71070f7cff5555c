import Derived.Test.YthkpanggjbckkaaDoorQT
import Derived.Test.YthkpanggjbckkaaDoorTab
import Derived.Test.YthkpanggjbckkaaDoorPNx31
namespace Go.Proofs.YthkpanggjbckkaaDoor.PN
open Go.RowKit Go.Shelf Go.Proofs.YthkpanggjbckkaaDoorW.PrintWords Go.Proofs.YthkpanggjbckkaaDoorW.PrintLast Go.Proofs.YthkpanggjbckkaaDoorW.PrintMore

theorem joins_end (l : List ByteArray) (t : ByteArray) (f : Int) (hl : (wire l).size ≤ 900000) (ht : (f == 0) = mayB t) (k : Nat) (s : ByteArray) (hf : name_Take.f k s = some (t, f)) (hts : t.size ≤ 255) (i : Nat) (hi : i = l.length) :
    derricklaw02_NameJoins.l0 (k + 1) l s true (joinF l).1 (joinF l).2 (wire l).size (joinOk l) i = some true := by
  rw [derricklaw02_NameJoins.l0, if_neg (by omega), hf]
  simp only [Option.bind_some, if_true]
  by_cases h : joinOk l = true
  · rw [if_pos h]
    by_cases h2 : (wire l).size ≤ 255
    · have e : joinF l = (wire l, 0) := by rw [join_eq, if_pos ⟨h, h2⟩]
      rw [e]
      dsimp only
      rw [decide_eq_true (show ((wire l).size : Int) ≤ 255 by omega), may_f (by omega), wire_may h h2, depth_f (by omega), wire_may h h2, wire_len l h, may_f (by omega)]
      simp [ht]
    · have e : joinF l = (⟨#[]⟩, 3) := by rw [join_eq, if_neg (fun h3 => h2 h3.2), if_pos h]
      rw [e]
      dsimp only
      rw [decide_eq_false (show ¬ ((wire l).size : Int) ≤ 255 by omega), may_f (s := t) (by omega)]
      simp [ht]
  · have e : joinF l = (⟨#[]⟩, 2) := by rw [join_eq, if_neg (fun h3 => h h3.1), if_neg h]
    rw [e, if_neg h]
    dsimp only
    rw [may_f (s := t) (by omega)]
    simp [ht]

theorem joins_l0 (l : List ByteArray) (s t : ByteArray) (f : Int) (hl : l.length ≤ 300) (hz : ∀ a ∈ l, a.size ≤ 300) (ht : (f == 0) = mayB t) (hts : t.size ≤ 255) : ∀ (d i k : Nat), i + d = l.length → name_Take.f k s = some (t, f) →
    derricklaw02_NameJoins.l0 (k + d + 1) l s true (joinF l).1 (joinF l).2 (wire (l.take i)).size (joinOk (l.take i)) i = some true := by
  have hsum : ∀ m, m ≤ l.length → (wire (l.take m)).size ≤ 1 + 301 * m := by
    intro m
    induction m with
    | zero => intro _; rw [wire_size]; simp [joinB]
    | succ m ih =>
      intro hm
      have := ih (by omega)
      rw [wire_size] at this ⊢
      rw [joinB_take m (by omega), List.length_append]
      have e2 : (labelBytes l[m]).length = l[m].size + 1 := by simp [labelBytes, foldL]
      have := hz l[m] (List.getElem_mem _)
      omega
  intro d
  induction d with
  | zero =>
    intro i k hi hf
    have e : l.take i = l := List.take_of_length_le (by omega)
    rw [e]
    have := hsum l.length (Nat.le_refl _)
    rw [List.take_length] at this
    exact joins_end l t f (by omega) ht k s hf hts i (by omega)
  | succ d ih =>
    intro i k hi hf
    have h := ih (i + 1) k (by omega) hf
    have hr : rdOf ByteArray.empty l (i : Int) = l[i] := by simp [rdOf, List.getD_eq_getElem?_getD, show i < l.length by omega]
    have hw := hsum (i + 1) (by omega)
    have hwi := hsum i (by omega)
    have e1 : (wire (l.take (i + 1))).size = (wire (l.take i)).size + 1 + l[i].size := by
      rw [wire_size, wire_size, joinB_take i (by omega), List.length_append]
      have e2 : (labelBytes l[i]).length = l[i].size + 1 := by simp [labelBytes, foldL]
      omega
    have e2 : wrap64 ((i : Int) + 1) = ((i + 1 : Nat) : Int) := by unfold wrap64; omega
    have e3 : wrap64 ((wrap64 (((wire (l.take i)).size : Int) + 1)) + (l[i].size : Int)) = ((wire (l.take (i + 1))).size : Int) := by unfold wrap64; omega
    rw [show k + (d + 1) + 1 = (k + d + 1) + 1 from rfl, derricklaw02_NameJoins.l0, if_pos (by omega), if_pos (by omega), hr, e2, e3]
    rw [joinOk_take i (by omega)] at h
    rcases hj : joinOk (l.take i) with _ | _
    · rw [hj, Bool.false_and] at h
      simp only [Bool.false_eq_true, if_false]
      exact h
    · rw [hj, Bool.true_and] at h
      simp only [if_true]
      by_cases h1 : ((l[i].size : Nat) : Int) ≥ 1
      · rw [if_pos h1]
        have : okLabel l[i] = decide (((l[i].size : Nat) : Int) ≤ 63) := by
          rw [okLabel, decide_eq_true (show 1 ≤ l[i].size by omega), Bool.true_and]
          exact decide_eq_decide.2 (by omega)
        rw [← this]; exact h
      · rw [if_neg h1]
        have : okLabel l[i] = false := by
          rw [okLabel, decide_eq_false (show ¬ 1 ≤ l[i].size by omega), Bool.false_and]
        rw [← this]; exact h

theorem NameJoins_pure (l : List ByteArray) (s : ByteArray) (k : Nat) (hk : 5000 < k) :
    derricklaw02_NameJoins.f k l s = some true := by
  obtain ⟨k, rfl⟩ : ∃ j, k = j + 400 := ⟨k - 400, by omega⟩
  unfold derricklaw02_NameJoins.f derricklaw02_few.f
  rw [shown_f]
  have hfw := few_f l 301 0 (k + 400) (by omega) (by omega) (by omega)
  rw [show ((0 : Nat) : Int) = 0 from rfl] at hfw
  rw [hfw]
  simp only [Option.bind_some, List.drop_zero]
  rcases hb : (decide (l.length ≤ 300) && l.all fun a => decide (a.size ≤ 300)) with _ | _
  · simp [derricklaw02_NameJoins.j0]
  · simp only [Bool.and_eq_true, decide_eq_true_eq, List.all_eq_true] at hb
    rw [if_pos rfl]
    by_cases h1 : (s.size : Int) > 1000
    · rw [decide_eq_true h1]; simp [derricklaw02_NameJoins.j0]
    · rw [decide_eq_false h1, derricklaw02_NameJoins.j0]
      simp only [Bool.false_eq_true, if_false]
      unfold name_Join.f
      rw [if_pos (by omega)]
      simp only [Option.bind_some]
      obtain ⟨t, f, hf, ht, hts⟩ := take_f s (k + 399 - l.length - 1) (by omega) (by omega)
      have h := joins_l0 l s t f hb.1 hb.2 ht hts l.length 0 (k + 399 - l.length - 1) (by omega) hf
      have e1 : k + 399 - l.length - 1 + l.length + 1 = k + 399 := by omega
      rw [e1] at h
      exact h
theorem NameJoins_walk (A0 : Option Addr) (c0 : Nat) (l : List ByteArray) (s : ByteArray) (w : World) (hT : TabW w) (hr0 : Kd.C Kd.string w A0 l.length l) (hc0 : l.length ≤ c0) (w1 : s.size ≤ 140737488351232) :
    Calls Tryd.prog 9 #[.slice A0 l.length c0, .string s] w fun e w' => e = .returned (.bool true) ∧ Below w.heap.size w w' := by
  obtain ⟨k, hk⟩ : ∃ k, 5000 < k := ⟨_, Nat.lt_succ_self _⟩
  exact derricklaw02_NameJoins.calls k A0 c0 l s true w hr0 hc0 (NameJoins_pure l s k hk)
end Go.Proofs.YthkpanggjbckkaaDoor.PN
