import Derived.Test.YthkpanggjbckkaaDoorQXs
namespace Go.Proofs.YthkpanggjbckkaaDoor.PN
open Go.RowKit Go.Shelf Go.Proofs.YthkpanggjbckkaaDoorW.PrintWords Go.Proofs.YthkpanggjbckkaaDoorW.PrintLast Go.Proofs.YthkpanggjbckkaaDoorW.PrintMore

/-- The bytes of a label, read. -/
theorem take_bytes (L : List ByteArray) (q : List UInt8) : ∀ (r bb : List UInt8) (k : Nat), bb.length + r.length ≤ 63 → 20 < k →
    name_Take.l0 (k + r.length) L (nums bb) false (bstr (r.flatMap shownB ++ q)) = name_Take.l0 k L (nums (bb ++ r)) false (bstr q) := by
  intro r
  induction r with
  | nil => intro bb k _ _; simp
  | cons c r ih =>
    intro bb k hb hk
    rw [List.length_cons] at hb
    rw [List.flatMap_cons, List.append_assoc, List.length_cons, ← Nat.add_assoc, our_tok _ _ _ _ _ _ (by omega) (by omega), Bool.false_or, decide_eq_false (by omega), ih (bb ++ [c]) k (by rw [List.length_append, List.length_singleton]; omega) hk]
    simp
theorem take_label (L : List ByteArray) (a : ByteArray) (q : List UInt8) (k : Nat) (ha : okLabel a = true) (hk : 20 < k) (hL : L.length < 1000000) :
    name_Take.l0 (k + (a.size + 1)) L (nums []) false (bstr (labT a ++ q)) = name_Take.l0 k (L ++ [a]) (nums []) false (bstr q) := by
  have hz := ok_iff.1 ha
  have hd := data_length a
  have hne : a.data.toList ≠ [] := fun h => by rw [h] at hd; simp at hd; omega
  have h := take_bytes L (46 :: q) a.data.toList [] (k + 1) (by simp; omega) (by omega)
  rw [hd] at h
  rw [show k + (a.size + 1) = k + 1 + a.size by omega, labT, List.append_assoc]
  refine h.trans ?_
  rw [List.nil_append, our_bad _ _ _ _ _ _ hk (by omega) (tok_point q), if_pos ⟨rfl, hne⟩, bstr_data]
def costOf : List ByteArray → Nat
  | [] => 0
  | a :: M => costOf M + (a.size + 1)
theorem take_labels (q : List UInt8) : ∀ (M L : List ByteArray) (k : Nat), joinOk M = true → 20 < k → L.length + M.length < 1000000 →
    name_Take.l0 (k + costOf M) L (nums []) false (bstr (M.flatMap labT ++ q)) = name_Take.l0 k (L ++ M) (nums []) false (bstr q) := by
  intro M
  induction M with
  | nil => intro L k _ _ _; simp [costOf]
  | cons a M ih =>
    intro L k h hk hl
    obtain ⟨h1, h2⟩ := joinOk_cons.1 h
    rw [List.length_cons] at hl
    rw [List.flatMap_cons, List.append_assoc, costOf, ← Nat.add_assoc, take_label _ _ _ _ h1 (by omega) (by omega), ih (L ++ [a]) k h2 hk (by rw [List.length_append, List.length_singleton]; omega)]
    simp
theorem cost_len : ∀ (M : List ByteArray), joinOk M = true → costOf M ≤ 64 * M.length
  | [], _ => by simp [costOf]
  | a :: M, h => by
    obtain ⟨h1, h2⟩ := joinOk_cons.1 h
    have := cost_len M h2
    have := ok_iff.1 h1
    rw [costOf, List.length_cons]; omega
theorem join_of (M : List ByteArray) (hM : M ≠ []) (hl : M.length ≤ 1000) (k : Nat) : name_Take.j1 (k + 1) M false = some (joinF M) := by
  have := List.length_pos_iff.2 hM
  rw [name_Take.j1, if_neg (by omega), if_neg (by simp)]
  unfold name_Join.f
  rw [if_pos (by omega)]
  rfl
theorem tok_text {M : List ByteArray} (hM : M ≠ []) (h : joinOk M = true) (q : List UInt8) : Tok (M.flatMap labT ++ q) := by
  obtain ⟨a, M, rfl⟩ := List.exists_cons_of_ne_nil hM
  have h1 := ok_iff.1 (joinOk_cons.1 h).1
  obtain ⟨c, r, hr⟩ := List.exists_cons_of_length_pos (show 0 < a.data.toList.length by rw [data_length]; omega)
  refine ⟨c, r.flatMap shownB ++ [46] ++ M.flatMap labT ++ q, ?_⟩
  rw [List.flatMap_cons, labT, hr, List.flatMap_cons]
  simp
theorem bstr_list' (l : List UInt8) : (bstr l).toList = l := by rw [ByteArray.toList_eq, bstr_list]
theorem p46 : (strOfNums [46]).toList = [46] := by decide +kernel
/-- The text of labels is taken as their name. -/
theorem take_text (M : List ByteArray) (hM : M ≠ []) (h : joinOk M = true) (hl : M.length ≤ 1000) (k : Nat) (hk : 100000 < k) : name_Take.f k (bstr (M.flatMap labT)) = some (joinF M) := by
  have hc := cost_len M h
  have ht := tok_text hM h []
  rw [List.append_nil] at ht
  unfold name_Take.f
  rw [bstr_list', p46, if_neg (fun hh => by rw [hh] at ht; exact tok_point [] ht)]
  have hx := take_labels [] M [] (k - costOf M) h (by omega) (by simp; omega)
  rw [show k - costOf M + costOf M = k by omega, List.append_nil, List.nil_append] at hx
  refine hx.trans ?_
  obtain ⟨j, hj⟩ : ∃ j, k - costOf M = j + 2 := ⟨k - costOf M - 2, by omega⟩
  rw [hj, our_nil _ _ _ _ (by omega), if_pos rfl]
  exact join_of M hM hl j
/-- Without the last point, too. -/
theorem take_short (M : List ByteArray) (hM : M ≠ []) (h : joinOk M = true) (hl : M.length ≤ 1000) (k : Nat) (hk : 100000 < k) : name_Take.f k (bstr (M.flatMap labT).dropLast) = some (joinF M) := by
  obtain ⟨M', z, rfl⟩ : ∃ M' z, M = M' ++ [z] := ⟨M.dropLast, M.getLast hM, (List.dropLast_concat_getLast hM).symm⟩
  have hz : okLabel z = true := by
    simp only [joinOk, List.all_eq_true] at h
    exact h z (by simp)
  have h' : joinOk M' = true := by
    simp only [joinOk, List.all_eq_true] at h ⊢
    exact fun a ha => h a (by simp [ha])
  have hzz := ok_iff.1 hz
  have hd := data_length z
  have hne : z.data.toList ≠ [] := fun hh => by rw [hh] at hd; simp at hd; omega
  rw [List.length_append, List.length_singleton] at hl
  have hc := cost_len M' h'
  have e : ((M' ++ [z]).flatMap labT).dropLast = M'.flatMap labT ++ z.data.toList.flatMap shownB := by
    rw [List.flatMap_append]
    have e2 : [z].flatMap labT = z.data.toList.flatMap shownB ++ [46] := by simp [labT]
    rw [e2, ← List.append_assoc, List.dropLast_concat]
  rw [e]
  have ht : Tok (M'.flatMap labT ++ z.data.toList.flatMap shownB) := by
    by_cases hM' : M' = []
    · subst hM'
      obtain ⟨c, r, hr⟩ := List.exists_cons_of_ne_nil hne
      exact ⟨c, r.flatMap shownB, by rw [hr]; simp⟩
    · exact tok_text hM' h' _
  unfold name_Take.f
  rw [bstr_list', p46, if_neg (fun hh => by rw [hh] at ht; exact tok_point [] ht)]
  have hx := take_labels (z.data.toList.flatMap shownB) M' [] (k - costOf M') h' (by omega) (by simp; omega)
  rw [show k - costOf M' + costOf M' = k by omega, List.nil_append] at hx
  refine hx.trans ?_
  have hy := take_bytes M' [] z.data.toList [] (k - costOf M' - z.size) (by simp; omega) (by omega)
  rw [hd, show k - costOf M' - z.size + z.size = k - costOf M' by omega, List.append_nil, List.nil_append] at hy
  refine hy.trans ?_
  obtain ⟨j, hj⟩ : ∃ j, k - costOf M' - z.size = j + 2 := ⟨k - costOf M' - z.size - 2, by omega⟩
  rw [hj, our_nil _ _ _ _ (by omega), if_neg hne, bstr_data]
  exact join_of (M' ++ [z]) (by simp) (by rw [List.length_append, List.length_singleton]; omega) j
/-- A small letter as the great one. -/
def upU (c : UInt8) : UInt8 := if 97 ≤ c ∧ c ≤ 122 then c - 32 else c
def upL (a : ByteArray) : ByteArray := bstr (a.data.toList.map upU)
set_option maxRecDepth 100000 in
theorem up_all : ∀ c : Fin 256, (shownB (UInt8.ofNat c.val)).map upU = shownB (upU (UInt8.ofNat c.val)) ∧ lowU (upU (UInt8.ofNat c.val)) = lowU (UInt8.ofNat c.val) := by
  decide +kernel
theorem up_one (c : UInt8) : (shownB c).map upU = shownB (upU c) ∧ lowU (upU c) = lowU c := by
  have := up_all ⟨c.toNat, c.toNat_lt⟩
  simpa using this
theorem up_shown : ∀ l : List UInt8, (l.flatMap shownB).map upU = (l.map upU).flatMap shownB
  | [] => rfl
  | c :: l => by rw [List.flatMap_cons, List.map_append, (up_one c).1, up_shown l]; rfl
theorem up_lab (a : ByteArray) : (labT a).map upU = labT (upL a) := by
  rw [labT, List.map_append, up_shown, labT, upL, bstr_list]
  rfl
theorem up_text : ∀ M : List ByteArray, (M.flatMap labT).map upU = (M.map upL).flatMap labT
  | [] => rfl
  | a :: M => by rw [List.flatMap_cons, List.map_append, up_lab, up_text M]; rfl
theorem up_size (a : ByteArray) : (upL a).size = a.size := by rw [upL, bstr_size, List.length_map, data_length]
theorem up_bytes (a : ByteArray) : labelBytes (upL a) = labelBytes a := by
  rw [labelBytes, labelBytes, up_size, upL, bstr_list]
  congr 1
  unfold foldL
  rw [List.map_map]
  exact List.map_congr_left fun c _ => (up_one c).2
theorem up_ok (a : ByteArray) : okLabel (upL a) = okLabel a := by unfold okLabel; rw [up_size]
theorem up_join (M : List ByteArray) : joinF (M.map upL) = joinF M := by
  have h1 : joinOk (M.map upL) = joinOk M := by
    unfold joinOk
    rw [List.all_map]
    congr 1
    funext a; exact up_ok a
  have h2 : joinB (M.map upL) = joinB M := by
    unfold joinB
    rw [List.flatMap_map]
    congr 1
    funext a; exact up_bytes a
  unfold joinF
  rw [h1, h2]
theorem take_great (M : List ByteArray) (hM : M ≠ []) (h : joinOk M = true) (hl : M.length ≤ 1000) (k : Nat) (hk : 100000 < k) : name_Take.f k (bstr ((M.flatMap labT).map upU)) = some (joinF M) := by
  rw [up_text, ← up_join M]
  refine take_text (M.map upL) (by simpa using hM) ?_ (by simpa using hl) k hk
  unfold joinOk at h ⊢
  rw [List.all_map]
  rw [← h]
  congr 1
  funext a; exact up_ok a
theorem labs_join {n : ByteArray} (h : mayB n = true) : joinF (labs n) = (n, 0) := by
  obtain ⟨h1, h2⟩ := may_wire n h
  have h3 := (may_iff.1 h).2.1
  rw [join_eq, h2, if_pos ⟨h1, h3⟩]
theorem text_labs {n : ByteArray} (h : mayB n = true) (hr : n ≠ rootB) : textF n = (labs n).flatMap labT := by
  unfold textF labs txtT
  rw [if_pos h, if_neg (fun hh => hr (root_iff.1 hh))]
  simp [List.flatMap_map]
theorem labs_ne {n : ByteArray} (h : mayB n = true) (hr : n ≠ rootB) : labs n ≠ [] := by
  rw [labs_yes (may_begun h hr)]; simp
theorem text_root : textF rootB = [46] := by
  unfold textF
  rw [if_pos may_rootB, if_pos (root_iff.2 rfl), eachOf_no begun_root]; rfl
/-- What NameBack asks of a name. -/
theorem back_all {n : ByteArray} (h : mayB n = true) (k : Nat) (hk : 100000 < k) : 0 < (textF n).length ∧ name_Take.f k (bstr (textF n)) = some (n, 0) ∧ name_Take.f k (bstr ((textF n).map upU)) = some (n, 0) ∧
    name_Take.f k (bstr (textF n).dropLast) = some (if n = rootB then (⟨#[]⟩, 2) else (n, 0)) := by
  have hsz := (may_iff.1 h).2.1
  by_cases hr : n = rootB
  · subst hr
    rw [text_root, if_pos rfl]
    refine ⟨by simp, ?_, ?_, ?_⟩
    · unfold name_Take.f; rw [bstr_list', p46, if_pos rfl]; rfl
    · unfold name_Take.f; rw [show [(46 : UInt8)].map upU = [46] by decide, bstr_list', p46, if_pos rfl]; rfl
    · obtain ⟨k, rfl⟩ : ∃ j, k = j + 2 := ⟨k - 2, by omega⟩
      unfold name_Take.f
      rw [bstr_list', p46, if_neg (by decide)]
      show name_Take.l0 (k + 2) [] (nums []) false (bstr []) = _
      rw [our_nil _ _ _ _ (by simp), if_pos rfl, name_Take.j1, if_pos (by simp)]
  · have h1 := (may_wire n h).1
    have h2 := labs_ne h hr
    have h3 : (labs n).length ≤ 1000 := by unfold labs; rw [List.length_map]; have := eachOf_len n; omega
    rw [text_labs h hr, if_neg hr, ← labs_join h]
    refine ⟨?_, take_text _ h2 h1 h3 k hk, take_great _ h2 h1 h3 k hk, take_short _ h2 h1 h3 k hk⟩
    obtain ⟨c, r, hcr⟩ := tok_text h2 h1 []
    rw [List.append_nil] at hcr
    rw [hcr, List.length_append]
    have := shownB_pos c
    omega
end Go.Proofs.YthkpanggjbckkaaDoor.PN
