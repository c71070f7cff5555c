import Derived.Test.YthkpanggjbckkaaDoorQT
import Derived.Test.YthkpanggjbckkaaDoorGK
import Derived.Test.YthkpanggjbckkaaDoorTab
namespace Go.Proofs.YthkpanggjbckkaaDoor.PN
open Go.RowKit Go.Shelf Go.Proofs.YthkpanggjbckkaaDoorW.PrintWords Go.Proofs.YthkpanggjbckkaaDoorW.PrintLast Go.Proofs.YthkpanggjbckkaaDoorW.PrintMore

theorem wrap_small {x y : Int} (e : x = y) (h1 : -4611686018427387904 ≤ y) (h2 : y ≤ 4611686018427387904) : wrap64 x = y := by
  subst e; unfold wrap64; omega
theorem wrap_s {a : Nat} (h : a ≤ 4398046511104) : wrap64 ((a : Int) + 1) = ((a + 1 : Nat) : Int) := by unfold wrap64; omega
theorem wrap_a {a b : Nat} (h : a ≤ 8796093022208) (h2 : b ≤ 8796093022208) : wrap64 ((a : Int) + (b : Int)) = ((a + b : Nat) : Int) := by unfold wrap64; omega
theorem extract_list (s : ByteArray) (a b : Nat) : (s.extract a b).data.toList = (s.data.toList.drop a).take (b - a) := Lib.extract_data s a b
theorem tail_list (s : ByteArray) (a : Nat) : (s.extract a s.size).data.toList = s.data.toList.drop a := by
  rw [extract_list, List.take_of_length_le]
  rw [List.length_drop, data_length]
  exact Nat.le_refl _
theorem bt_tail (s : ByteArray) (a : Nat) : bt (s.extract a s.size) 0 = bt s a := by
  by_cases h : a < s.size
  · have h1 : (0 : Int).toNat < (s.extract a s.size).data.toList.length := by rw [data_length]; simp; omega
    have h2 : a < s.data.toList.length := by rw [data_length]; exact h
    rw [show (0 : Int) = ((0 : Nat) : Int) from rfl, bt_get _ 0 h1, bt_get _ a h2]
    simp only [tail_list, List.getElem_drop, Nat.add_zero]
  · have h1 : ¬ (0 : Int).toNat < (s.extract a s.size).size := by simp; omega
    have h2 : ¬ (a : Int).toNat < s.size := by simpa using h
    unfold bt
    rw [dif_neg h1, dif_neg h2]
theorem begun_iff {s : ByteArray} : begun s = true ↔ 0 < bt s 0 ∧ bt s 0 ≤ 63 ∧ bt s 0 < s.size := by
  simp only [begun, Bool.and_eq_true, decide_eq_true_eq]
  have := (bt_range s 0).1
  omega
theorem root_one {s : ByteArray} : s = rootB ↔ s.size = 1 ∧ bt s 0 = 0 := by
  constructor
  · rintro rfl; exact ⟨rfl, by decide +kernel⟩
  · rintro ⟨h1, h2⟩
    have hl := data_length s
    rw [h1] at hl
    obtain ⟨c, hc⟩ := List.length_eq_one_iff.1 hl
    have h3 : s = bstr [c] := ba_ext (by rw [bstr_list]; exact hc)
    rw [h3, bt_cons] at h2
    have h4 : c = 0 := UInt8.toNat_inj.1 (by simpa using h2)
    rw [h3, h4]; rfl
theorem rest_tail (s : ByteArray) (a b : Nat) (hb : bt s a = (b : Int)) : restOf (s.extract a s.size) = s.extract (a + 1 + b) s.size := by
  apply ba_ext
  rw [rest_data, tail_list, bt_tail, hb, tail_list, List.drop_drop]
  congr 1; omega
theorem label_tail (s : ByteArray) (a b : Nat) (hb : bt s a = (b : Int)) : labelOf (s.extract a s.size) = s.extract (a + 1) (a + 1 + b) := by
  apply ba_ext
  rw [labelOf, extract_list, tail_list, bt_tail, hb, extract_list, List.drop_drop]
  congr 1; omega

set_option maxHeartbeats 1000000 in
theorem rlabels_l0 (s : ByteArray) (hs : s.size ≤ 4398046511104) : ∀ (t : ByteArray) (a k : Nat) (out : List ByteArray), t = s.extract a s.size → a ≤ s.size → out.length ≤ a → 2 * t.size + 2 < k →
    derrickref02_Labels.l0 k s out a = some (if lastOf t (eachOf t) = rootB then (if s.size ≤ 255 then (out ++ (eachOf t).map (·.1), 0) else ([], 3)) else ([], 2)) := by
  intro t
  refine by_rests (p := fun t => ∀ (a k : Nat) (out : List ByteArray), t = s.extract a s.size → a ≤ s.size → out.length ≤ a → 2 * t.size + 2 < k →
    derrickref02_Labels.l0 k s out a = some (if lastOf t (eachOf t) = rootB then (if s.size ≤ 255 then (out ++ (eachOf t).map (·.1), 0) else ([], 3)) else ([], 2))) ?_ t
  intro t ih a k out ht ha ho hk
  obtain ⟨k, rfl⟩ : ∃ j, k = j + 2 := ⟨k - 2, by omega⟩
  have htz : t.size = s.size - a := by rw [ht]; simp
  have hbt : bt t 0 = bt s a := by rw [ht]; exact bt_tail s a
  have hr := bt_range s a
  obtain ⟨b, hb⟩ : ∃ b : Nat, bt s a = (b : Int) := ⟨(bt s a).toNat, by omega⟩
  rw [derrickref02_Labels.l0]
  have hw : wrap64 (bt s a) = (b : Int) := wrap_small hb (by omega) (by omega)
  rcases hbg : begun t with _ | _
  · have hnb : ¬ (0 < bt t 0 ∧ bt t 0 ≤ 63 ∧ bt t 0 < t.size) := fun h => by rw [begun_iff.2 h] at hbg; cases hbg
    rw [eachOf_no hbg]
    show _ = some (if t = rootB then _ else _)
    have hend : ∀ m, derrickref02_Labels.j1 (m + 1) s out a false = some (if (a : Int) = (s.size : Int) - 1 then (if s.size ≤ 255 then (out, 0) else ([], 3)) else ([], 2)) := by
      intro m
      have e : wrap64 ((s.size : Int) - 1) = (s.size : Int) - 1 := wrap_small (by omega) (by omega) (by omega)
      rw [derrickref02_Labels.j1, if_neg (by simp), e]
      split
      · by_cases h : s.size ≤ 255
        · rw [if_neg (by omega), if_pos h]
        · rw [if_pos (by omega), if_neg h]
      · rfl
    by_cases h1 : (a : Int) < s.size
    · rw [if_pos h1, if_pos (by omega), hb]
      by_cases h0 : b = 0
      · have e : (((b : Int)) != 0) = false := by simp [h0]
        rw [e, hend]
        by_cases h2 : t = rootB
        · have := root_one.1 h2
          rw [if_pos h2, if_pos (by omega)]; simp
        · rw [if_neg h2, if_neg (fun h => h2 (root_one.2 ⟨by omega, by omega⟩))]
      · have e : (((b : Int)) != 0) = true := by simp [h0]
        have h2 : t ≠ rootB := fun h => by clear e; have := root_one.1 h; omega
        rw [e, derrickref02_Labels.j1, if_pos (show (true = true) from rfl)]
        clear e
        rw [if_pos (by omega), if_pos h1, hw, if_neg h2]
        by_cases h3 : (b : Int) > 63
        · rw [if_pos h3]
        · have x1 : a ≤ 4398046511104 := by omega
          have x2 : a + 1 ≤ 8796093022208 := by omega
          have x3 : b ≤ 8796093022208 := by omega
          rw [if_neg h3, wrap_s x1, wrap_a x2 x3, if_pos (by omega)]
    · rw [if_neg h1, hend]
      have h2 : t ≠ rootB := fun h => by have := root_one.1 h; omega
      rw [if_neg h2, if_neg (by omega)]
  · obtain ⟨g1, g2, g3⟩ := begun_iff.1 hbg
    have x1 : a ≤ 4398046511104 := by omega
    have x2 : a + 1 ≤ 8796093022208 := by omega
    have x3 : b ≤ 8796093022208 := by omega
    have hrest : restOf t = s.extract (a + 1 + b) s.size := by rw [ht]; exact rest_tail s a b hb
    have hlab : labelOf t = s.extract (a + 1) (a + 1 + b) := by rw [ht]; exact label_tail s a b hb
    have hlt := restOf_lt hbg
    rw [if_pos (by omega), if_pos (by omega), hb, show (((b : Int)) != 0) = true by simp; omega, derrickref02_Labels.j1, if_pos (show (true = true) from rfl), if_pos (by omega), if_pos (by omega), hw, if_neg (by omega), wrap_s x1, wrap_a x2 x3, if_neg (by omega), if_pos (by omega), if_pos (by omega), if_pos (by omega), if_pos (by omega)]
    rw [ih hbg (a + 1 + b) k _ hrest (by omega) (by rw [List.length_append, List.length_singleton]; omega) (by omega), eachOf_yes hbg, hlab]
    simp only [Int.toNat_natCast, List.map_cons, List.append_assoc, List.singleton_append]
    rfl
theorem rlabels_f {s : ByteArray} (hs : s.size ≤ 4398046511104) {k : Nat} (hk : 2 * s.size + 2 < k) : derrickref02_Labels.f k s = some (labelsF s) := by
  have h := rlabels_l0 s hs (s.extract 0 s.size) 0 k [] rfl (by omega) (Nat.le_refl _) (by simpa using hk)
  have e : s.extract 0 s.size = s := by apply ba_ext; rw [tail_list]; rfl
  rw [e] at h
  unfold derrickref02_Labels.f
  rw [show (0 : Int) = ((0 : Nat) : Int) from rfl, h]
  unfold labelsF
  congr 1
  by_cases h1 : lastOf s (eachOf s) = rootB
  · rw [if_pos h1, if_pos (root_iff.2 h1)]; rfl
  · rw [if_neg h1, if_neg (fun h2 => h1 (root_iff.1 h2))]
theorem rmay_f {s : ByteArray} (hs : s.size ≤ 4398046511104) {k : Nat} (hk : 2 * s.size + 2 < k) : derrickref02_May.f k s = some (mayB s) := by
  unfold derrickref02_May.f
  rw [rlabels_f hs hk]
  simp only [Option.bind_some]
  unfold mayB
  by_cases h2 : (labelsF s).2 = 0
  · rw [if_pos h2, rfold_f (by omega) (by omega)]; simp [h2]
  · rw [if_neg h2]; simp [h2]
theorem labels_may {s : ByteArray} (h : mayB s = true) : labelsF s = ((eachOf s).map (·.1), 0) := by
  obtain ⟨h1, h2, _⟩ := may_iff.1 h
  unfold labelsF
  rw [if_pos (root_iff.2 h1), if_pos h2]
theorem rparent_f {s : ByteArray} (hs : s.size ≤ 4398046511104) {k : Nat} (hk : 2 * s.size + 2 < k) : derrickref02_Parent.f k s = name_Parent.f s := by
  unfold derrickref02_Parent.f
  rw [rmay_f hs hk]
  simp only [Option.bind_some]
  rcases h : mayB s with _ | _
  · rw [parent_no hs h]; rfl
  · rw [parent_f hs h, if_pos rfl]
    by_cases hr : s = rootB
    · rw [if_pos (root_iff.2 hr), if_pos hr]
    · obtain ⟨g1, g2, g3⟩ := begun_iff.1 (may_begun h hr)
      have e : wrap64 (1 + wrap64 (bt s 0)) = 1 + bt s 0 := by
        rw [wrap_small (x := bt s 0) rfl (by omega) (by omega)]
        exact wrap_small rfl (by omega) (by omega)
      rw [if_neg (fun h2 => hr (root_iff.1 h2)), if_neg hr, if_pos (by omega), e, if_pos (by omega), if_pos (by omega), restOf]
      congr 4
      omega
theorem rdepth_f {s : ByteArray} (hs : s.size ≤ 4398046511104) {k : Nat} (hk : 2 * s.size + 2 < k) : derrickref02_Depth.f k s = name_Depth.f s := by
  unfold derrickref02_Depth.f
  rw [rmay_f hs hk, depth_f hs]
  simp only [Option.bind_some]
  rcases h : mayB s with _ | _
  · simp
  · rw [if_pos rfl, if_pos rfl, rlabels_f hs hk, labels_may h]
    simp
/-- The labels alone. -/
def labs (s : ByteArray) : List ByteArray := (eachOf s).map (·.1)
theorem labs_yes {s : ByteArray} (h : begun s = true) : labs s = labelOf s :: labs (restOf s) := by
  unfold labs; rw [eachOf_yes h]; rfl
theorem labs_root : labs rootB = [] := by unfold labs; rw [eachOf_no begun_root]; rfl
theorem foldL_fix {l m : List UInt8} (h : foldL (l ++ m) = l ++ m) : foldL l = l ∧ foldL m = m := by
  rw [foldL_append] at h
  exact List.append_inj h (foldL_len l)
theorem may_wire : ∀ (s : ByteArray), mayB s = true → joinOk (labs s) = true ∧ wire (labs s) = s := by
  intro s
  refine by_rests (p := fun s => mayB s = true → joinOk (labs s) = true ∧ wire (labs s) = s) ?_ s
  intro s ih h
  by_cases hr : s = rootB
  · subst hr; rw [labs_root]; exact ⟨rfl, wire_nil⟩
  · have hb := may_begun h hr
    obtain ⟨g1, g2, g3⟩ := begun_iff.1 hb
    obtain ⟨h1, h2⟩ := ih hb (may_rest h hb)
    obtain ⟨b, hbb⟩ : ∃ b : Nat, bt s 0 = (b : Int) := ⟨(bt s 0).toNat, by omega⟩
    have hl : (labelOf s).data.toList = (s.data.toList.drop 1).take b := by
      have e1 : 1 + ((b : Int)).toNat - 1 = b := by omega
      rw [labelOf, extract_list, hbb, e1]
    have hsz : (labelOf s).size = b := by
      rw [← data_length, hl, List.length_take, List.length_drop, data_length]; omega
    have hok : okLabel (labelOf s) = true := ok_iff.2 ⟨by omega, by omega⟩
    rw [labs_yes hb]
    refine ⟨joinOk_cons.2 ⟨hok, h1⟩, ?_⟩
    have hlen : 0 < s.data.toList.length := by rw [data_length]; omega
    obtain ⟨c, m, hcm⟩ := List.exists_cons_of_length_pos hlen
    have hsb : s = bstr (c :: m) := ba_ext (by rw [bstr_list]; exact hcm)
    have hc : (c.toNat : Int) = b := by rw [← hbb, hsb, bt_cons]
    have hc2 : UInt8.ofNat b = c := by
      have : b = c.toNat := by omega
      rw [this, UInt8.ofNat_toNat]
    have hm : m = (labelOf s).data.toList ++ (restOf s).data.toList := by
      rw [hl, rest_data, hcm, hbb]
      have e1 : 1 + ((b : Int)).toNat = b + 1 := by omega
      rw [e1, List.drop_succ_cons, List.drop_succ_cons, List.drop_zero, List.take_append_drop]
    have hf := (may_iff.1 h).2.2
    rw [hcm, show foldL (c :: m) = lowU c :: foldL m from rfl] at hf
    have hfm : foldL m = m := (List.cons.inj hf).2
    have hfl : foldL (labelOf s).data.toList = (labelOf s).data.toList := (foldL_fix (hm ▸ hfm)).1
    have hwr : joinB (labs (restOf s)) ++ [0] = (restOf s).data.toList := by
      have := congrArg (fun x => x.data.toList) h2
      rw [← this, wire, bstr_list]
    apply ba_ext
    rw [wire_list, bstr_list, hsz, hc2, hfl, hcm, hwr, ← hm]
theorem labs_inj {a b : ByteArray} (ha : mayB a = true) (hb : mayB b = true) (h : labs a = labs b) : a = b := by
  rw [← (may_wire a ha).2, ← (may_wire b hb).2, h]
theorem ends_suffix : ∀ (n z : ByteArray), z ∈ ends n → labs z <:+ labs n := by
  intro n
  refine by_rests (p := fun n => ∀ z, z ∈ ends n → labs z <:+ labs n) ?_ n
  intro n ih z hz
  rcases hb : begun n with _ | _
  · rw [ends_no hb, List.mem_singleton] at hz; rw [hz]; exact List.suffix_refl _
  · rw [ends_yes hb, List.mem_cons] at hz
    rcases hz with rfl | hz
    · exact List.suffix_refl _
    · rw [labs_yes hb]; exact (ih hb z hz).trans (List.suffix_cons _ _)
theorem suffix_ends : ∀ (n : ByteArray), mayB n = true → ∀ (x : List ByteArray), x <:+ labs n → ∃ z ∈ ends n, mayB z = true ∧ labs z = x := by
  intro n
  refine by_rests (p := fun n => mayB n = true → ∀ (x : List ByteArray), x <:+ labs n → ∃ z ∈ ends n, mayB z = true ∧ labs z = x) ?_ n
  intro n ih hn x hx
  by_cases hr : n = rootB
  · subst hr
    rw [labs_root] at hx
    exact ⟨rootB, ends_self _, hn, by rw [labs_root, List.suffix_nil.1 hx]⟩
  · have hb := may_begun hn hr
    rw [labs_yes hb, List.suffix_cons_iff] at hx
    rcases hx with rfl | hx
    · exact ⟨n, ends_self _, hn, labs_yes hb⟩
    · obtain ⟨z, h1, h2, h3⟩ := ih hb (may_rest hn hb) x hx
      exact ⟨z, by rw [ends_yes hb]; exact List.mem_cons_of_mem _ h1, h2, h3⟩
theorem under_labs {n z : ByteArray} (hn : mayB n = true) (hz : mayB z = true) : z ∈ ends n ↔ labs z <:+ labs n := by
  constructor
  · exact ends_suffix n z
  · intro h
    obtain ⟨y, h1, h2, h3⟩ := suffix_ends n hn _ h
    rw [← labs_inj h2 hz h3]; exact h1

theorem rdOf_nat (l : List ByteArray) (i : Nat) (h : i < l.length) : rdOf ByteArray.empty l (i : Int) = l[i] := by
  unfold rdOf
  rw [Int.toNat_natCast, List.getD_eq_getElem?_getD, List.getElem?_eq_getElem h]
  rfl
theorem runder_l0 (a b : List ByteArray) (ha : a.length ≤ 1000000) (hab : b.length ≤ a.length) : ∀ (d i k : Nat), i + d = b.length → d < k →
    derrickref02_Under.l0 k a b i = some (decide (a.drop (a.length - b.length + i) = b.drop i)) := by
  intro d
  induction d with
  | zero =>
    intro i k hi hk
    obtain ⟨k, rfl⟩ : ∃ j, k = j + 1 := ⟨k - 1, by omega⟩
    rw [derrickref02_Under.l0, if_neg (by omega), List.drop_of_length_le (by omega), List.drop_of_length_le (by omega)]
    simp
  | succ d ih =>
    intro i k hi hk
    obtain ⟨k, rfl⟩ : ∃ j, k = j + 1 := ⟨k - 1, by omega⟩
    have e1 : wrap64 (wrap64 ((a.length : Int) - (b.length : Int)) + (i : Int)) = ((a.length - b.length + i : Nat) : Int) := by
      rw [wrap_small (x := (a.length : Int) - (b.length : Int)) rfl (by omega) (by omega)]
      exact wrap_small (by omega) (by omega) (by omega)
    have h1 : a.length - b.length + i < a.length := by clear e1; omega
    have h2 : i < b.length := by clear e1; omega
    have x1 : i ≤ 4398046511104 := by clear e1; omega
    have hr1 := rdOf_nat a _ h1
    have hr2 := rdOf_nat b i h2
    have hdr : (a.drop (a.length - b.length + i) = b.drop i) ↔ (a[a.length - b.length + i] = b[i] ∧ a.drop (a.length - b.length + (i + 1)) = b.drop (i + 1)) := by
      rw [List.drop_eq_getElem_cons h1, List.drop_eq_getElem_cons h2, List.cons.injEq]
      rfl
    rw [derrickref02_Under.l0, if_pos (by omega), e1]
    clear e1
    rw [if_pos (by omega), if_pos (by omega), if_pos (by omega), hr1, hr2, wrap_s x1, ih (i + 1) k (by omega) (by omega)]
    by_cases hx : a[a.length - b.length + i] = b[i]
    · rw [if_pos (toList_inj.2 hx)]
      congr 1
      exact decide_eq_decide.2 ⟨fun h => hdr.2 ⟨hx, h⟩, fun h => (hdr.1 h).2⟩
    · rw [if_neg (fun h => hx (toList_inj.1 h))]
      congr 1
      exact (decide_eq_false (fun h => hx (hdr.1 h).1)).symm
theorem runder_f {n z : ByteArray} (hs : n.size ≤ 1000) (hz : z.size ≤ 1000) {k : Nat} (hk : 5000 < k) : derrickref02_Under.f k n z = some (underB n z) := by
  obtain ⟨k, rfl⟩ : ∃ j, k = j + 1 := ⟨k - 1, by omega⟩
  unfold derrickref02_Under.f
  rw [rmay_f (by omega) (by omega), rmay_f (by omega) (by omega)]
  simp only [Option.bind_some]
  rcases hn : mayB n with _ | _
  · simp [derrickref02_Under.j0, underB, hn]
  · rcases hzz : mayB z with _ | _
    · simp [derrickref02_Under.j0, underB, hzz]
    · rw [if_pos rfl, derrickref02_Under.j0]
      simp only [Bool.not_true, Bool.false_eq_true, if_false]
      rw [rlabels_f (by omega) (by omega), rlabels_f (by omega) (by omega), labels_may hn, labels_may hzz]
      simp only [Option.bind_some]
      show (if ((labs n).length : Int) < ((labs z).length : Int) then some false else derrickref02_Under.l0 k (labs n) (labs z) 0) = _
      have hln : (labs n).length ≤ n.size := by unfold labs; rw [List.length_map]; exact eachOf_len n
      have hlz : (labs z).length ≤ z.size := by unfold labs; rw [List.length_map]; exact eachOf_len z
      have hu : underB n z = decide (labs z <:+ labs n) := by
        unfold underB
        rw [hn, hzz, Bool.true_and, Bool.true_and]
        exact decide_eq_decide.2 (under_labs hn hzz)
      rw [hu]
      by_cases h1 : ((labs n).length : Int) < ((labs z).length : Int)
      · rw [if_pos h1]
        congr 1
        exact (decide_eq_false (fun h => by have := h.length_le; omega)).symm
      · rw [if_neg h1, show (0 : Int) = ((0 : Nat) : Int) from rfl, runder_l0 (labs n) (labs z) (by omega) (by omega) (labs z).length 0 k (by omega) (by omega)]
        congr 1
        refine decide_eq_decide.2 ?_
        rw [List.drop_zero, Nat.add_zero, List.suffix_iff_eq_drop]
        exact eq_comm
theorem rstrings_f (l : List ByteArray) (hl : l.length ≤ 1000000) {k : Nat} (hk : l.length < k) : derrickref02_Strings.f k l l = some true := by
  have h : ∀ (d i k : Nat), i + d = l.length → d < k → derrickref02_Strings.l0 k l l i = some true := by
    intro d
    induction d with
    | zero =>
      intro i k hi hk
      obtain ⟨k, rfl⟩ : ∃ j, k = j + 1 := ⟨k - 1, by omega⟩
      rw [derrickref02_Strings.l0, if_neg (by omega)]
    | succ d ih =>
      intro i k hi hk
      obtain ⟨k, rfl⟩ : ∃ j, k = j + 1 := ⟨k - 1, by omega⟩
      have x1 : i ≤ 4398046511104 := by omega
      rw [derrickref02_Strings.l0, if_pos (by omega), if_pos (by omega), if_pos (by omega), if_pos rfl, wrap_s x1]
      exact ih (i + 1) k (by omega) (by omega)
  unfold derrickref02_Strings.f
  rw [if_pos rfl]
  exact h l.length 0 k (by omega) hk
end Go.Proofs.YthkpanggjbckkaaDoor.PN
