import Derived.Test.YthkpanggjbckkaaDoorQXs
import Derived.Test.YthkpanggjbckkaaDoorPNx29
namespace Go.Proofs.YthkpanggjbckkaaDoor.PN
open Go.RowKit Go.Shelf Go.Proofs.YthkpanggjbckkaaDoorW.PrintWords Go.Proofs.YthkpanggjbckkaaDoorW.PrintLast Go.Proofs.YthkpanggjbckkaaDoorW.PrintMore

theorem rtext_l1 (L : List ByteArray) (hL : L.length ≤ 1000) (x : Nat) (hx : x < L.length) (hz : L[x].size ≤ 1000) : ∀ (d i k : Nat) (acc : List UInt8), i + d = L[x].size → d + 2 ≤ k → acc.length + 10 * d ≤ 100000000 →
    derrickref02_Text.l1 k L (bstr acc) x i = derrickref02_Text.l0 (k - (d + 1)) L (bstr (acc ++ ((L[x].data.toList.drop i).flatMap shownB ++ [46]))) ((x + 1 : Nat) : Int) := by
  intro d
  have hr := rdOf_nat L x hx
  generalize L[x] = a at hz hr ⊢
  have hdl := data_length a
  induction d with
  | zero =>
    intro i k acc hi hk ha
    obtain ⟨k, rfl⟩ : ∃ j, k = j + 1 := ⟨k - 1, by omega⟩
    have e : bstr acc ++ (⟨#[46]⟩ : ByteArray) = bstr (acc ++ [46]) := bstr_append acc [46]
    have hs : (bstr acc).size + 1 ≤ 9223372036854775807 := by rw [bstr_size]; omega
    rw [derrickref02_Text.l1, if_pos (show (0 : Int) ≤ (x : Int) by omega), if_pos (show (x : Int) < (L.length : Int) by omega), hr, if_neg (show ¬ ((i : Int) < (a.size : Int)) by omega), if_pos hs, e, wrap_s (by omega), List.drop_of_length_le (by omega)]
    rfl
  | succ d ih =>
    intro i k acc hi hk ha
    obtain ⟨k, rfl⟩ : ∃ j, k = j + 1 := ⟨k - 1, by omega⟩
    have hlt : i < a.data.toList.length := by omega
    have hb := bt_get a i hlt
    have hsl := shownB_len a.data.toList[i]
    have hs : (bstr acc).size + (bstr (shownB a.data.toList[i])).size ≤ 9223372036854775807 := by rw [bstr_size, bstr_size]; omega
    rw [derrickref02_Text.l1, if_pos (show (0 : Int) ≤ (x : Int) by omega), if_pos (show (x : Int) < (L.length : Int) by omega), hr, if_pos (show ((i : Int) < (a.size : Int)) by omega), if_pos (show (0 : Int) ≤ (i : Int) by omega), hb, one_f _ (by omega)]
    simp only [Option.bind_some]
    rw [if_pos hs, bstr_append, wrap_s (by omega), ih (i + 1) k (acc ++ shownB a.data.toList[i]) (by omega) (by omega) (by rw [List.length_append]; omega), List.drop_eq_getElem_cons hlt, List.flatMap_cons]
    simp only [List.append_assoc]
    congr 1
    omega
theorem rtext_l0 (L : List ByteArray) (hL : L.length ≤ 1000) (hz : ∀ a ∈ L, a.size ≤ 1000) : ∀ (e x k : Nat) (acc : List UInt8), x + e = L.length → 1100 * e + 10 ≤ k → acc.length + 20000 * e ≤ 50000000 →
    derrickref02_Text.l0 k L (bstr acc) x = some (bstr (acc ++ (L.drop x).flatMap labT)) := by
  intro e
  induction e with
  | zero =>
    intro x k acc hx hk ha
    obtain ⟨k, rfl⟩ : ∃ j, k = j + 1 := ⟨k - 1, by omega⟩
    rw [derrickref02_Text.l0, if_neg (by omega), List.drop_of_length_le (by omega)]
    simp
  | succ e ih =>
    intro x k acc hx hk ha
    obtain ⟨k, rfl⟩ : ∃ j, k = j + 1 := ⟨k - 1, by omega⟩
    have hlt : x < L.length := by omega
    have hs := hz L[x] (List.getElem_mem hlt)
    have hll : ((L[x].data.toList.drop 0).flatMap shownB ++ [46]).length ≤ 4 * L[x].size + 1 := by
      have : ∀ m : List UInt8, (m.flatMap shownB).length ≤ 4 * m.length := by
        intro m
        induction m with
        | nil => simp
        | cons c m ih => rw [List.flatMap_cons, List.length_append, List.length_cons]; have := shownB_len c; omega
      have h2 := this (L[x].data.toList.drop 0)
      have h3 := data_length L[x]
      rw [List.length_append, List.length_singleton]
      simp only [List.drop_zero] at h2 ⊢
      omega
    have h1 := rtext_l1 L hL x hlt hs L[x].size 0 k acc (by omega) (by omega) (by omega)
    rw [derrickref02_Text.l0, if_pos (show (x : Int) < (L.length : Int) by omega), show (0 : Int) = ((0 : Nat) : Int) from rfl, h1, ih (x + 1) _ _ (by omega) (by omega) (by rw [List.length_append]; omega), List.drop_eq_getElem_cons hlt, List.flatMap_cons]
    simp only [labT, List.drop_zero, List.append_assoc]
theorem rtext_f (s : ByteArray) (hs : s.size ≤ 1000) (k : Nat) (hk : 1200000 < k) : derrickref02_Text.f k s = some (bstr (textF s)) := by
  unfold derrickref02_Text.f textF
  rw [rmay_f (by omega) (by omega)]
  simp only [Option.bind_some]
  rcases hm : mayB s with _ | _
  · rw [if_neg (by simp), if_neg (by simp)]; rfl
  · rw [if_pos rfl, if_pos rfl]
    by_cases h0 : s.toList = [0]
    · rw [if_pos h0, if_pos h0, root_iff.1 h0, eachOf_no begun_root]
      rfl
    · rw [if_neg h0, if_neg h0, rlabels_f (by omega) (by omega), labels_may hm]
      simp only [Option.bind_some]
      have hz : ∀ a ∈ labs s, a.size ≤ 1000 := by
        have hok := (may_wire s hm).1
        simp only [joinOk, List.all_eq_true] at hok
        intro a ha
        have := ok_iff.1 (hok a ha)
        omega
      have hlen : (labs s).length ≤ 1000 := by
        unfold labs; rw [List.length_map]; have := eachOf_len s; omega
      have h := rtext_l0 (labs s) hlen hz (labs s).length 0 k [] (by omega) (by omega) (by simp; omega)
      show derrickref02_Text.l0 k (labs s) (bstr []) ((0 : Nat) : Int) = _
      rw [h]
      unfold labs txtT
      simp [List.flatMap_map]
theorem NameTexts_pure (n s : ByteArray) (k : Nat) (hk : 2000000 < k) : derricklaw02_NameTexts.f k n s = some true := by
  obtain ⟨k, rfl⟩ : ∃ j, k = j + 1 := ⟨k - 1, by omega⟩
  unfold derricklaw02_NameTexts.f
  rw [shown_f]
  simp only [Option.bind_some]
  by_cases h1 : (n.size : Int) > 1000
  · rw [if_pos h1, derricklaw02_NameTexts.j0]; rfl
  · rw [if_neg h1]
    by_cases h2 : (s.size : Int) > 1000
    · rw [decide_eq_true h2, derricklaw02_NameTexts.j0]; rfl
    · rw [decide_eq_false h2, derricklaw02_NameTexts.j0]
      simp only [Bool.false_eq_true, if_false]
      obtain ⟨t, f, hf, _, _⟩ := take_f s k (by omega) (by omega)
      have hn : n.size ≤ 4398046511104 := by omega
      rw [← take_eqB s (by omega) k (by omega), hf, rtext_f n (by omega) k (by omega)]
      unfold name_TextT.f
      rw [if_pos hn]
      simp
theorem NameTexts_walk (n s : ByteArray) (w : World) (hT : TabW w) (w0 : n.size ≤ 140737488351232) (w1 : s.size ≤ 140737488351232) :
    Calls Tryd.prog 7 #[.string n, .string s] w fun e w' => e = .returned (.bool true) ∧ Below w.heap.size w w' := by
  obtain ⟨k, hk⟩ : ∃ k, 2000000 < k := ⟨_, Nat.lt_succ_self _⟩
  exact derricklaw02_NameTexts.calls k n s true w hT (NameTexts_pure n s k hk)
end Go.Proofs.YthkpanggjbckkaaDoor.PN
