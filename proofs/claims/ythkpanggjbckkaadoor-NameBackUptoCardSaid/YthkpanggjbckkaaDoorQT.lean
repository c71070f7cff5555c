import Derived.Test.YthkpanggjbckkaaDoorQ0
import Derived.Test.YthkpanggjbckkaaDoorQF
import Derived.Test.YthkpanggjbckkaaDoorGJ
import Derived.Test.YthkpanggjbckkaaDoorPNx4
import Derived.Test.YthkpanggjbckkaaDoorPNz
namespace Go.Proofs.YthkpanggjbckkaaDoor.PN
open Go.RowKit Go.Shelf Go.Proofs.YthkpanggjbckkaaDoorW.PrintWords Go.Proofs.YthkpanggjbckkaaDoorW.PrintLast Go.Proofs.YthkpanggjbckkaaDoorW.PrintMore

theorem ba_ext {a b : ByteArray} (h : a.data.toList = b.data.toList) : a = b := ByteArray.ext (Array.toList_inj.1 h)
theorem bstr_list (l : List UInt8) : (bstr l).data.toList = l := by simp [bstr]
theorem bt_cons (c : UInt8) (l : List UInt8) : bt (bstr (c :: l)) 0 = (c.toNat : Int) := by
  have h : (0 : Int).toNat < (bstr (c :: l)).size := by rw [bstr_size]; simp
  rw [← bt_at _ _ h]
  rfl
/-- Labels in their places, and the root. -/
def wire (l : List ByteArray) : ByteArray := bstr (joinB l ++ [0])
theorem wire_nil : wire [] = rootB := rfl
theorem wire_list (a : ByteArray) (l : List ByteArray) : wire (a :: l) = bstr (UInt8.ofNat a.size :: (foldL a.data.toList ++ (joinB l ++ [0]))) := by
  simp [wire, joinB, labelBytes]
theorem wire_size (l : List ByteArray) : (wire l).size = (joinB l).length + 1 := by
  rw [wire, bstr_size]; simp
theorem foldL_len (l : List UInt8) : (foldL l).length = l.length := by simp [foldL]
theorem ok_iff {a : ByteArray} : okLabel a = true ↔ 1 ≤ a.size ∧ a.size ≤ 63 := by simp [okLabel]
theorem wire_bt {a : ByteArray} (l : List ByteArray) (h : okLabel a = true) : bt (wire (a :: l)) 0 = (a.size : Int) := by
  have := ok_iff.1 h
  rw [wire_list, bt_cons, UInt8.toNat_ofNat']
  omega
theorem wire_cons_size (a : ByteArray) (l : List ByteArray) : (wire (a :: l)).size = 1 + a.size + (wire l).size := by
  rw [wire_list, wire_size, bstr_size]
  simp [foldL_len]
  have := data_length a
  omega
theorem wire_begun {a : ByteArray} (l : List ByteArray) (h : okLabel a = true) : begun (wire (a :: l)) = true := by
  have := ok_iff.1 h
  have h2 := wire_cons_size a l
  have h3 := wire_size l
  simp only [begun, wire_bt l h, Bool.and_eq_true, decide_eq_true_eq]
  omega
theorem wire_rest {a : ByteArray} (l : List ByteArray) (h : okLabel a = true) : restOf (wire (a :: l)) = wire l := by
  apply ba_ext
  rw [rest_data, wire_bt l h, wire_list, bstr_list, wire, bstr_list]
  have e : 1 + ((a.size : Int)).toNat = a.size + 1 := by omega
  rw [e, List.drop_succ_cons]
  have e2 : a.size = (foldL a.data.toList).length := by rw [foldL_len, data_length]
  rw [e2, List.drop_left]
theorem joinOk_cons {a : ByteArray} {l : List ByteArray} : joinOk (a :: l) = true ↔ okLabel a = true ∧ joinOk l = true := by
  simp [joinOk]
theorem wire_last : ∀ (l : List ByteArray), joinOk l = true → lastOf (wire l) (eachOf (wire l)) = rootB
  | [], _ => by rw [wire_nil, eachOf_no begun_root]; rfl
  | a :: l, h => by
    obtain ⟨h1, h2⟩ := joinOk_cons.1 h
    rw [eachOf_yes (wire_begun l h1), wire_rest l h1]
    exact wire_last l h2
theorem wire_len : ∀ (l : List ByteArray), joinOk l = true → (eachOf (wire l)).length = l.length
  | [], _ => by rw [wire_nil, eachOf_no begun_root]; rfl
  | a :: l, h => by
    obtain ⟨h1, h2⟩ := joinOk_cons.1 h
    rw [eachOf_yes (wire_begun l h1), wire_rest l h1, List.length_cons, wire_len l h2, List.length_cons]
theorem foldL_append (a b : List UInt8) : foldL (a ++ b) = foldL a ++ foldL b := by simp [foldL]
theorem low_small {n : Nat} (h : n ≤ 63) : lowU (UInt8.ofNat n) = UInt8.ofNat n := by
  have h2 : (lowU (UInt8.ofNat n)).toNat = (UInt8.ofNat n).toNat := by
    rw [lowU_nat, UInt8.toNat_ofNat', if_neg (by omega)]
  exact UInt8.toNat_inj.1 h2
theorem joinB_fold : ∀ (l : List ByteArray), joinOk l = true → foldL (joinB l) = joinB l
  | [], _ => rfl
  | a :: l, h => by
    obtain ⟨h1, h2⟩ := joinOk_cons.1 h
    have e : joinB (a :: l) = UInt8.ofNat a.size :: (foldL a.data.toList ++ joinB l) := by simp [joinB, labelBytes]
    have e2 : foldL (UInt8.ofNat a.size :: (foldL a.data.toList ++ joinB l)) = lowU (UInt8.ofNat a.size) :: foldL (foldL a.data.toList ++ joinB l) := rfl
    rw [e, e2, foldL_append, fold_fold, joinB_fold l h2, low_small (ok_iff.1 h1).2]
theorem wire_may {l : List ByteArray} (h : joinOk l = true) (hs : (wire l).size ≤ 255) : mayB (wire l) = true := by
  refine may_iff.2 ⟨wire_last l h, hs, ?_⟩
  rw [wire, bstr_list, foldL_append, joinB_fold l h]
  rfl
theorem may_none : mayB ⟨#[]⟩ = false := by decide +kernel
theorem join_eq (l : List ByteArray) : joinF l = if joinOk l = true ∧ (wire l).size ≤ 255 then (wire l, 0) else (⟨#[]⟩, if joinOk l = true then 3 else 2) := by
  have hs : (joinB l ++ [0]).length = (wire l).size := by rw [wire_size]; simp
  unfold joinF
  rw [hs]
  by_cases h : joinOk l = true
  · by_cases h2 : (wire l).size ≤ 255
    · rw [if_pos h, if_pos h2, if_pos ⟨h, h2⟩]; rfl
    · rw [if_pos h, if_neg h2, if_neg (fun h3 => h2 h3.2), if_pos h]
  · rw [if_neg h, if_neg (fun h3 => h h3.1), if_neg h]
theorem join_may (l : List ByteArray) : ((joinF l).2 == 0) = mayB (joinF l).1 := by
  rw [join_eq]
  by_cases h : joinOk l = true ∧ (wire l).size ≤ 255
  · rw [if_pos h, wire_may h.1 h.2]; rfl
  · rw [if_neg h, may_none]
    dsimp only
    split <;> rfl

theorem few_f (l : List ByteArray) : ∀ (d i k : Nat), i + d = 301 → i ≤ l.length → 2 * d + 3 ≤ k →
    derricklaw02_few.l0 k l i = some (decide (l.length ≤ 300) && (l.drop i).all fun a => decide (a.size ≤ 300)) := by
  intro d
  induction d with
  | zero =>
    intro i k hi hil hk
    obtain ⟨k, rfl⟩ : ∃ j, k = j + 2 := ⟨k - 2, by omega⟩
    rw [derricklaw02_few.l0, derricklaw02_few.j1]
    have h3 : decide (l.length ≤ 300) = false := decide_eq_false (by omega)
    have h4 : decide ((l.length : Int) ≤ 300) = false := decide_eq_false (by omega)
    rw [decide_eq_false (show ¬ ((i : Int) < 301) by omega), h3]
    split <;> simp [derricklaw02_few.j1, h4]
  | succ d ih =>
    intro i k hi hil hk
    obtain ⟨k, rfl⟩ : ∃ j, k = j + 2 := ⟨k - 2, by omega⟩
    rw [derricklaw02_few.l0]
    rcases Nat.lt_or_ge i l.length with h | h
    · rw [if_pos (by omega), decide_eq_true (show (i : Int) < 301 by omega), derricklaw02_few.j1]
      simp only [if_true]
      rw [if_pos (by omega), if_pos (by omega)]
      have hr : rdOf ByteArray.empty l (i : Int) = l[i] := by simp [rdOf, List.getD_eq_getElem?_getD, h]
      rw [hr, List.drop_eq_getElem_cons h, List.all_cons]
      by_cases hz : (l[i].size : Int) > 300
      · rw [if_pos hz, decide_eq_false (show ¬ l[i].size ≤ 300 by omega)]; simp
      · rw [if_neg hz, decide_eq_true (show l[i].size ≤ 300 by omega)]
        have e2 : wrap64 ((i : Int) + 1) = ((i + 1 : Nat) : Int) := by unfold wrap64; omega
        rw [e2, ih (i + 1) k (by omega) (by omega) (by omega)]
        simp
    · rw [if_neg (by omega), List.drop_of_length_le h]
      simp [derricklaw02_few.j1]
      omega

theorem figures_f (s : ByteArray) (hs : s.size ≤ 3) : ∀ (d i k : Nat) (v : Int), i + d = s.size → d < k → ∃ r b, name_figures.l0 k s v s.size i = some (r, b) ∧ (b = true → s.size = 3) := by
  intro d
  induction d with
  | zero =>
    intro i k v hi hk
    obtain ⟨k, rfl⟩ : ∃ j, k = j + 1 := ⟨k - 1, by omega⟩
    rw [name_figures.l0, if_neg (by omega)]
    split
    · split
      · split <;> exact ⟨_, _, rfl, fun _ => by omega⟩
      · exact ⟨_, _, rfl, fun h => by cases h⟩
    · exact ⟨_, _, rfl, fun h => by cases h⟩
  | succ d ih =>
    intro i k v hi hk
    obtain ⟨k, rfl⟩ : ∃ j, k = j + 1 := ⟨k - 1, by omega⟩
    rw [name_figures.l0, if_pos (by omega), if_pos (by omega), if_pos (by omega)]
    split
    · exact ⟨_, _, rfl, fun h => by cases h⟩
    · split
      · exact ⟨_, _, rfl, fun h => by cases h⟩
      · have e2 : wrap64 ((i : Int) + 1) = ((i + 1 : Nat) : Int) := by unfold wrap64; omega
        rw [e2]
        exact ih (i + 1) k _ (by omega) (by omega)
theorem taken_f (s : ByteArray) (k : Nat) (hs : 0 < s.size) (hk : 10 < k) : ∃ (c o : Int), name_taken.f k s = some (c, o) ∧ 0 ≤ o ∧ o ≤ s.size := by
  obtain ⟨k, rfl⟩ : ∃ j, k = j + 2 := ⟨k - 2, by omega⟩
  unfold name_taken.f
  rw [if_pos (by omega)]
  obtain ⟨p, hp⟩ : ∃ p, name_plain.f (bt s 0) = some p := by
    unfold name_plain.f
    split
    · split
      · split <;> exact ⟨_, rfl⟩
      · exact ⟨_, rfl⟩
    · exact ⟨_, rfl⟩
  rw [hp]
  simp only [Option.bind_some]
  split
  · exact ⟨_, _, rfl, by omega, by omega⟩
  · have hno : ∃ (c o : Int), name_taken.j0 (k + 2) s true = some (c, o) ∧ 0 ≤ o ∧ o ≤ s.size := ⟨0, 0, by simp [name_taken.j0], by omega, by omega⟩
    split
    · by_cases h2 : (s.size : Int) < 2
      · rw [decide_eq_true h2]; exact hno
      · rw [decide_eq_false h2, name_taken.j0]
        simp only [Bool.false_eq_true, if_false]
        rw [if_pos (by omega)]
        have h1 : ∀ b, ∃ (c o : Int), name_taken.j1 (k + 1) s b = some (c, o) ∧ 0 ≤ o ∧ o ≤ s.size := by
          intro b
          rw [name_taken.j1]
          split
          · rw [if_pos (by omega)]; exact ⟨_, _, rfl, by omega, by omega⟩
          · have hm : 1 ≤ mn 4 (s.size : Int) ∧ mn 4 (s.size : Int) ≤ s.size ∧ mn 4 (s.size : Int) ≤ 4 := by unfold mn; split <;> omega
            rw [if_pos hm.1, if_pos hm.2.1]
            have hz : (s.extract 1 (mn 4 (s.size : Int)).toNat).size = (mn 4 (s.size : Int)).toNat - 1 := by simp; omega
            obtain ⟨r, b, hb, h3⟩ := figures_f (s.extract 1 (mn 4 (s.size : Int)).toNat) (by omega) _ 0 k 0 (Nat.zero_add _) (by omega)
            unfold name_figures.f
            have e0 : ((0 : Nat) : Int) = 0 := rfl
            rw [e0] at hb
            rw [hb]
            simp only [Option.bind_some]
            split
            · rename_i hbt
              have := h3 hbt
              exact ⟨_, _, rfl, by omega, by omega⟩
            · exact ⟨_, _, rfl, by omega, by omega⟩
        split
        · exact h1 _
        · exact h1 _
    · exact hno
theorem join_size (l : List ByteArray) : (joinF l).1.size ≤ 255 := by
  rw [join_eq]
  by_cases h : joinOk l = true ∧ (wire l).size ≤ 255
  · rw [if_pos h]; exact h.2
  · rw [if_neg h]; exact Nat.zero_le _
theorem take_j1 (k : Nat) (x4 : List ByteArray) (x6 : Bool) (h : x4.length ≤ 1000000) : ∃ r1 r2, name_Take.j1 (k + 1) x4 x6 = some (r1, r2) ∧ (r2 == 0) = mayB r1 ∧ r1.size ≤ 255 := by
  rw [name_Take.j1]
  split
  · exact ⟨_, _, rfl, by rw [may_none]; rfl, Nat.zero_le _⟩
  · split
    · exact ⟨_, _, rfl, by rw [may_none]; rfl, Nat.zero_le _⟩
    · unfold name_Join.f
      rw [if_pos (by omega)]
      exact ⟨_, _, rfl, join_may x4, join_size x4⟩
theorem take_l0 : ∀ (n : Nat) (s : ByteArray) (x4 : List ByteArray) (x5 : List Int) (x6 : Bool) (k : Nat), s.size ≤ n → x4.length + x5.length + s.size ≤ 900000 → n + 20 ≤ k →
    ∃ r1 r2, name_Take.l0 k x4 x5 x6 s = some (r1, r2) ∧ (r2 == 0) = mayB r1 ∧ r1.size ≤ 255 := by
  intro n
  induction n with
  | zero =>
    intro s x4 x5 x6 k hs hl hk
    obtain ⟨k, rfl⟩ : ∃ j, k = j + 2 := ⟨k - 2, by omega⟩
    have e : s = ⟨#[]⟩ := by
      apply ba_ext
      have := data_length s
      have h0 : s.data.toList.length = 0 := by omega
      rw [List.length_eq_zero_iff.1 h0]
    subst e
    rw [name_Take.l0, if_pos (by decide +kernel)]
    split
    · rw [if_pos (by omega)]
      exact take_j1 k _ _ (by rw [List.length_append]; simp; omega)
    · exact take_j1 k _ _ (by omega)
  | succ n ih =>
    intro s x4 x5 x6 k hs hl hk
    obtain ⟨k, rfl⟩ : ∃ j, k = j + 2 := ⟨k - 2, by omega⟩
    rw [name_Take.l0]
    split
    · split
      · rw [if_pos (by omega)]
        exact take_j1 k _ _ (by rw [List.length_append]; simp; omega)
      · exact take_j1 k _ _ (by omega)
    · rename_i hne
      have hs0 : 0 < s.size := by
        apply Nat.pos_of_ne_zero
        intro h0
        apply hne
        rw [ByteArray.toList_eq]
        exact List.length_eq_zero_iff.1 (by rw [data_length]; exact h0)
      obtain ⟨c, o, ho, h1, h2⟩ := taken_f s (k + 1) hs0 (by omega)
      rw [ho]
      simp only [Option.bind_some]
      split
      · rename_i hpos
        have hz : (s.extract o.toNat s.size).size = s.size - o.toNat := by simp
        rw [if_pos (by omega)]
        split
        · try rw [if_pos h1, if_pos h2]
          exact ih _ _ _ _ _ (by omega) (by rw [List.length_append, List.length_singleton]; omega) (by omega)
        · try rw [if_pos h1, if_pos h2]
          exact ih _ _ _ _ _ (by omega) (by rw [List.length_append, List.length_singleton]; omega) (by omega)
      · rw [if_pos (by omega)]
        have hz : (s.extract 1 s.size).size = s.size - 1 := by simp
        split
        · split
          · rw [if_pos (by omega)]
            split
            · rw [if_pos (by omega)]
              exact ih _ _ _ _ _ (by omega) (by rw [List.length_append, List.length_singleton, List.length_nil]; omega) (by omega)
            · rw [if_pos (by omega)]
              exact ih _ _ _ _ _ (by omega) (by rw [List.length_append, List.length_singleton, List.length_nil]; omega) (by omega)
          · exact ⟨_, _, rfl, by rw [may_none]; rfl, Nat.zero_le _⟩
        · exact ⟨_, _, rfl, by rw [may_none]; rfl, Nat.zero_le _⟩
theorem take_f (s : ByteArray) (k : Nat) (hs : s.size ≤ 800000) (hk : s.size + 20 ≤ k) : ∃ r1 r2, name_Take.f k s = some (r1, r2) ∧ (r2 == 0) = mayB r1 ∧ r1.size ≤ 255 := by
  unfold name_Take.f
  split
  · exact ⟨_, _, rfl, by decide +kernel, by decide⟩
  · exact take_l0 s.size s [] [] false k (Nat.le_refl _) (by simp; omega) hk
end Go.Proofs.YthkpanggjbckkaaDoor.PN
