import Derived.Test.YthkpanggjbckkaaDoorQR
import Derived.Test.YthkpanggjbckkaaDoorGX
import Derived.Test.YthkpanggjbckkaaDoorPNy
namespace Go.Proofs.YthkpanggjbckkaaDoor.PN
open Go.RowKit Go.Shelf Go.Proofs.YthkpanggjbckkaaDoorW.PrintWords Go.Proofs.YthkpanggjbckkaaDoorW.PrintLast Go.Proofs.YthkpanggjbckkaaDoorW.PrintMore

theorem one_fuel (k : Nat) (x : Int) : derrickref02_one.f (k + 1) x = derrickref02_one.f 1 x := by
  unfold derrickref02_one.f
  simp only [derrickref02_one.j0]
set_option maxRecDepth 100000 in
theorem one_all : ∀ c : Fin 256, derrickref02_one.f 1 (c.val : Int) = some (bstr (shownB (UInt8.ofNat c.val))) := by
  decide +kernel
theorem one_f (c : UInt8) {k : Nat} (hk : 0 < k) : derrickref02_one.f k (c.toNat : Int) = some (bstr (shownB c)) := by
  obtain ⟨k, rfl⟩ : ∃ j, k = j + 1 := ⟨k - 1, by omega⟩
  have h := one_all ⟨c.toNat, c.toNat_lt⟩
  rw [one_fuel, h]
  simp
theorem figures_up (s : ByteArray) (r : Int × Bool) : ∀ (j k : Nat), name_figures.f k s = some r → name_figures.f (k + j) s = some r
  | 0, _, h => h
  | j + 1, k, h => name_figures.mono s (k + j) r (figures_up s r j k h)
set_option maxRecDepth 100000 in
theorem figures_all : ∀ c : Fin 256, ¬ (33 ≤ c.val ∧ c.val ≤ 126) → name_figures.f 5 (bstr (digits3 (UInt8.ofNat c.val))) = some ((c.val : Int), true) := by
  decide +kernel
theorem bt_list (c : List UInt8) (i : Nat) (h : i < c.length) : bt (bstr c) (i : Int) = (c[i].toNat : Int) := by
  have h2 : i < (bstr c).data.toList.length := by rw [bstr_list]; exact h
  rw [bt_get _ i h2]
  simp only [bstr_list]
theorem bt_list0 (c : List UInt8) (h : 0 < c.length) : bt (bstr c) 0 = (c[0].toNat : Int) := bt_list c 0 h
theorem bt_list1 (c : List UInt8) (h : 1 < c.length) : bt (bstr c) 1 = (c[1].toNat : Int) := bt_list c 1 h
set_option maxRecDepth 100000 in
theorem digit_all : ∀ c : Fin 256, (48 + (UInt8.ofNat c.val) / 100).toNat ≤ 50 ∧ 48 ≤ (48 + (UInt8.ofNat c.val) / 100).toNat := by
  decide +kernel
theorem digits3_len (c : UInt8) : (digits3 c).length = 3 := rfl

/-- A byte's text is taken as that byte, whatever is behind it. -/
theorem taken_one (c : UInt8) (l : List UInt8) {k : Nat} (hk : 10 < k) : name_taken.f k (bstr (shownB c ++ l)) = some ((c.toNat : Int), ((shownB c).length : Int)) := by
  obtain ⟨k, rfl⟩ : ∃ j, k = j + 2 := ⟨k - 2, by omega⟩
  have hcl : c.toNat < 256 := c.toNat_lt
  have hplain92 : name_plain.f 92 = some false := by decide +kernel
  by_cases h1 : c = 46 ∨ c = 92
  · have e : shownB c = [92, c] := by unfold shownB; rw [if_pos h1]
    rw [e]
    have hz : (bstr ([92, c] ++ l)).size = l.length + 2 := by rw [bstr_size]; simp
    have b0 : bt (bstr ([92, c] ++ l)) 0 = 92 := by rw [bt_list0 _ (by simp)]; rfl
    have b1 : bt (bstr ([92, c] ++ l)) 1 = (c.toNat : Int) := by rw [bt_list1 _ (by simp)]; rfl
    unfold name_taken.f
    rw [if_pos (by omega), b0, hplain92]
    simp only [Option.bind_some, Bool.false_eq_true, if_false]
    rw [if_pos True.intro, decide_eq_false (by omega), name_taken.j0]
    simp only [Bool.false_eq_true, if_false]
    rw [if_pos (by omega), b1]
    have hj : name_taken.j1 (k + 1) (bstr ([92, c] ++ l)) true = some ((c.toNat : Int), 2) := by
      rw [name_taken.j1, if_pos (show true = true from rfl), if_pos (by omega), b1]
    rcases h1 with rfl | rfl
    · rw [if_pos (by decide)]; exact hj
    · rw [if_neg (by decide)]; exact hj
  · have n1 : c.toNat ≠ 46 := fun h => h1 (.inl (u8_eq.2 h))
    have n2 : c.toNat ≠ 92 := fun h => h1 (.inr (u8_eq.2 h))
    by_cases h2 : 33 ≤ c ∧ c ≤ 126
    · have e : shownB c = [c] := by unfold shownB; rw [if_neg h1, if_pos h2]
      have h3 : 33 ≤ c.toNat := u8_le.1 h2.1
      have h4 : c.toNat ≤ 126 := u8_le.1 h2.2
      rw [e]
      have hz : (bstr ([c] ++ l)).size = l.length + 1 := by rw [bstr_size]; simp
      have b0 : bt (bstr ([c] ++ l)) 0 = (c.toNat : Int) := by rw [bt_list0 _ (by simp)]; rfl
      have hp : name_plain.f (c.toNat : Int) = some true := by
        unfold name_plain.f
        rw [if_pos (by omega), if_pos (by omega), if_neg (by omega)]
        congr 1
        simp; omega
      unfold name_taken.f
      rw [if_pos (by omega), b0, hp]
      rfl
    · have e : shownB c = 92 :: digits3 c := by unfold shownB; rw [if_neg h1, if_neg h2]
      have h2' : ¬ (33 ≤ c.toNat ∧ c.toNat ≤ 126) := fun h => h2 ⟨u8_le.2 h.1, u8_le.2 h.2⟩
      rw [e]
      have hz : (bstr (92 :: digits3 c ++ l)).size = l.length + 4 := by rw [bstr_size]; simp [digits3]
      have b0 : bt (bstr (92 :: digits3 c ++ l)) 0 = 92 := by rw [bt_list0 _ (by simp)]; rfl
      have b1 : bt (bstr (92 :: digits3 c ++ l)) 1 = ((48 + c / 100 : UInt8).toNat : Int) := by rw [bt_list1 _ (by simp [digits3])]; rfl
      have hd := digit_all ⟨c.toNat, hcl⟩
      simp only [UInt8.ofNat_toNat] at hd
      have hfig := figures_all ⟨c.toNat, hcl⟩ h2'
      simp only [UInt8.ofNat_toNat] at hfig
      have hx : (bstr (92 :: digits3 c ++ l)).extract 1 4 = bstr (digits3 c) := by
        apply ba_ext
        rw [extract_list, bstr_list, bstr_list]
        simp [digits3]
      unfold name_taken.f
      rw [if_pos (by omega), b0, hplain92]
      simp only [Option.bind_some, Bool.false_eq_true, if_false]
      rw [if_pos True.intro, decide_eq_false (by omega), name_taken.j0]
      simp only [Bool.false_eq_true, if_false]
      have hbeq : ((((48 + c / 100 : UInt8).toNat : Int)) == 92) = false := by rw [beq_eq_false_iff_ne]; omega
      have hmn : mn 4 ((bstr (92 :: digits3 c ++ l)).size : Int) = 4 := by unfold mn; rw [hz]; split <;> omega
      rw [if_pos (by omega), b1, if_neg (by omega), hbeq, name_taken.j1]
      simp only [Bool.false_eq_true, if_false]
      rw [hmn, if_pos (by omega), if_pos (by omega), show ((4 : Int)).toNat = 4 from rfl, hx]
      have hf2 := figures_up _ _ (k - 5) 5 hfig
      rw [show 5 + (k - 5) = k by omega] at hf2
      rw [hf2]
      rfl
end Go.Proofs.YthkpanggjbckkaaDoor.PN
namespace Go.Proofs.YthkpanggjbckkaaDoor.PN
open Go.RowKit Go.Shelf Go.Proofs.YthkpanggjbckkaaDoorW.PrintWords Go.Proofs.YthkpanggjbckkaaDoorW.PrintLast Go.Proofs.YthkpanggjbckkaaDoorW.PrintMore

theorem fig_step (s : ByteArray) (k i : Nat) (v : Int) (hs : s.size = 3) (h : i < 3) : name_figures.l0 (k + 1) s v 3 i =
    if bt s i < 48 then some (0, false) else if bt s i > 57 then some (0, false) else name_figures.l0 k s (wrap64 (wrap64 (10 * v) + ((bt s i - 48) % 256))) 3 ((i + 1 : Nat) : Int) := by
  rw [name_figures.l0, if_pos (by omega), if_pos (by omega), if_pos (by omega), wrap_s (by omega)]
theorem fig_end (s : ByteArray) (k : Nat) (v : Int) (hs : s.size = 3) : name_figures.l0 (k + 1) s v 3 ((3 : Nat) : Int) =
    if v ≤ 255 then (if v < 33 then some (v % 256, true) else some (v % 256, decide (v > 126))) else some (v % 256, false) := by
  rw [name_figures.l0, if_neg (by omega), if_pos (by omega)]
theorem wrap_v {v d : Int} (h1 : 0 ≤ v) (h2 : v ≤ 100) (h3 : 0 ≤ d) (h4 : d ≤ 9) : wrap64 (wrap64 (10 * v) + d % 256) = 10 * v + d := by
  rw [wrap_small (x := 10 * v) rfl (by omega) (by omega)]
  exact wrap_small (by omega) (by omega) (by omega)
theorem digits_conv (x y z : UInt8) (v : Int) (hx : 48 ≤ x.toNat ∧ x.toNat ≤ 57) (hy : 48 ≤ y.toNat ∧ y.toNat ≤ 57) (hz : 48 ≤ z.toNat ∧ z.toNat ≤ 57) (hv : v = 10 * (10 * (10 * 0 + ((x.toNat : Int) - 48)) + ((y.toNat : Int) - 48)) + ((z.toNat : Int) - 48)) (h : v ≤ 255) :
    v = ((UInt8.ofNat v.toNat).toNat : Int) ∧ digits3 (UInt8.ofNat v.toNat) = [x, y, z] := by
  obtain ⟨n, rfl⟩ : ∃ n : Nat, v = (n : Int) := ⟨v.toNat, by omega⟩
  have hn : n < 256 := by omega
  have e : (UInt8.ofNat n).toNat = n := by rw [UInt8.toNat_ofNat']; omega
  rw [Int.toNat_natCast]
  refine ⟨by rw [e], ?_⟩
  have t48 : (48 : UInt8).toNat = 48 := rfl
  have t100 : (100 : UInt8).toNat = 100 := rfl
  have t10 : (10 : UInt8).toNat = 10 := rfl
  have e1 : 48 + UInt8.ofNat n / 100 = x := by
    apply UInt8.toNat_inj.1
    rw [UInt8.toNat_add, UInt8.toNat_div, e, t48, t100]; omega
  have e2 : 48 + UInt8.ofNat n / 10 % 10 = y := by
    apply UInt8.toNat_inj.1
    rw [UInt8.toNat_add, UInt8.toNat_mod, UInt8.toNat_div, e, t48, t10]; omega
  have e3 : 48 + UInt8.ofNat n % 10 = z := by
    apply UInt8.toNat_inj.1
    rw [UInt8.toNat_add, UInt8.toNat_mod, e, t48, t10]; omega
  rw [digits3, e1, e2, e3]
theorem figures_conv (x y z : UInt8) (k : Nat) (v : Int) (hk : 10 < k) (h : name_figures.f k (bstr [x, y, z]) = some (v, true)) :
    ∃ c : UInt8, v = (c.toNat : Int) ∧ digits3 c = [x, y, z] ∧ ¬ (33 ≤ c.toNat ∧ c.toNat ≤ 126) := by
  obtain ⟨k, rfl⟩ : ∃ j, k = j + 4 := ⟨k - 4, by omega⟩
  have hs : (bstr [x, y, z]).size = 3 := rfl
  have b0 : bt (bstr [x, y, z]) ((0 : Nat) : Int) = (x.toNat : Int) := bt_list [x, y, z] 0 (by simp)
  have b1 : bt (bstr [x, y, z]) ((0 + 1 : Nat) : Int) = (y.toNat : Int) := bt_list [x, y, z] 1 (by simp)
  have b2 : bt (bstr [x, y, z]) ((0 + 1 + 1 : Nat) : Int) = (z.toNat : Int) := bt_list [x, y, z] 2 (by simp)
  unfold name_figures.f at h
  rw [hs] at h
  replace h : name_figures.l0 (k + 3 + 1) (bstr [x, y, z]) 0 3 ((0 : Nat) : Int) = some (v, true) := h
  rw [fig_step _ _ _ _ hs (by omega), b0] at h
  split at h
  · cases h
  split at h
  · cases h
  rename_i g1 g2
  rw [wrap_v (by omega) (by omega) (by omega) (by omega), fig_step _ (k + 2) (0 + 1) _ hs (by omega), b1] at h
  split at h
  · cases h
  split at h
  · cases h
  rename_i g3 g4
  rw [wrap_v (by omega) (by omega) (by omega) (by omega), fig_step _ (k + 1) (0 + 1 + 1) _ hs (by omega), b2] at h
  split at h
  · cases h
  split at h
  · cases h
  rename_i g5 g6
  rw [wrap_v (by omega) (by omega) (by omega) (by omega)] at h
  replace h := (fig_end _ k _ hs).symm.trans h
  obtain ⟨V, hV⟩ : ∃ V : Int, V = 10 * (10 * (10 * 0 + ((x.toNat : Int) - 48)) + ((y.toNat : Int) - 48)) + ((z.toNat : Int) - 48) := ⟨_, rfl⟩
  rw [← hV] at h
  split at h
  · rename_i hV2
    have hd := digits_conv x y z V ⟨by omega, by omega⟩ ⟨by omega, by omega⟩ ⟨by omega, by omega⟩ hV hV2
    have h0 : 0 ≤ V := by omega
    refine ⟨UInt8.ofNat V.toNat, ?_, hd.2, ?_⟩
    · split at h
      · have := (Prod.mk.inj (Option.some.inj h)).1
        rw [← hd.1]; omega
      · have := (Prod.mk.inj (Option.some.inj h)).1
        rw [← hd.1]; omega
    · have := hd.1
      split at h
      · omega
      · have h2 := (Prod.mk.inj (Option.some.inj h)).2
        have h3 := of_decide_eq_true h2
        omega
  · cases h

/-- What is taken is a byte's text. -/
theorem taken_conv (l : List UInt8) (k : Nat) (c o : Int) (hk : 20 < k) (hl : 0 < l.length) (h : name_taken.f k (bstr l) = some (c, o)) (ho : o > 0) :
    ∃ (c' : UInt8) (r : List UInt8), c = (c'.toNat : Int) ∧ l = shownB c' ++ r := by
  obtain ⟨k, rfl⟩ : ∃ j, k = j + 2 := ⟨k - 2, by omega⟩
  obtain ⟨a, r, rfl⟩ := List.exists_cons_of_length_pos hl
  have b0 : bt (bstr (a :: r)) 0 = (a.toNat : Int) := bt_list0 _ hl
  have hz : (bstr (a :: r)).size = r.length + 1 := by rw [bstr_size]; rfl
  unfold name_taken.f at h
  rw [if_pos (by omega), b0] at h
  obtain ⟨p, hp, h⟩ := Option.bind_eq_some_iff.1 h
  have hno : name_taken.j0 (k + 2) (bstr (a :: r)) true = some (0, 0) := by rw [name_taken.j0]; rfl
  split at h
  · rename_i hpt
    subst hpt
    have hq : 33 ≤ a.toNat ∧ a.toNat ≤ 126 ∧ a.toNat ≠ 46 ∧ a.toNat ≠ 92 := by
      unfold name_plain.f at hp
      split at hp
      · split at hp
        · split at hp
          · cases hp
          · have := Option.some.inj hp
            simp at this
            omega
        · cases hp
      · cases hp
    have e : shownB a = [a] := by
      unfold shownB
      rw [if_neg (by rintro (h | h); exact hq.2.2.1 (u8_eq.1 h); exact hq.2.2.2 (u8_eq.1 h)), if_pos ⟨u8_le.2 hq.1, u8_le.2 hq.2.1⟩]
    exact ⟨a, r, (Prod.mk.inj (Option.some.inj h)).1.symm, by rw [e]; rfl⟩
  · split at h
    · rename_i h92
      have ha : a = 92 := UInt8.toNat_inj.1 (by have : (92 : UInt8).toNat = 92 := rfl; omega)
      subst ha
      by_cases h2 : ((bstr (92 :: r)).size : Int) < 2
      · rw [decide_eq_true h2, hno] at h
        have := (Prod.mk.inj (Option.some.inj h)).2; omega
      · rw [decide_eq_false h2, name_taken.j0] at h
        simp only [Bool.false_eq_true, if_false] at h
        obtain ⟨b, r2, rfl⟩ := List.exists_cons_of_length_pos (show 0 < r.length by omega)
        have b1 : bt (bstr (92 :: b :: r2)) 1 = (b.toNat : Int) := bt_list1 _ (by simp)
        rw [if_pos (by omega), b1] at h
        have hesc : b.toNat = 46 ∨ b.toNat = 92 → name_taken.j1 (k + 1) (bstr (92 :: b :: r2)) true = some (c, o) → ∃ (c' : UInt8) (r : List UInt8), c = (c'.toNat : Int) ∧ 92 :: b :: r2 = shownB c' ++ r := by
          intro hb hj
          rw [name_taken.j1, if_pos (show true = true from rfl), if_pos (by omega), b1] at hj
          have e : shownB b = [92, b] := by
            unfold shownB
            rw [if_pos (hb.imp (fun h => u8_eq.2 h) (fun h => u8_eq.2 h))]
          exact ⟨b, r2, (Prod.mk.inj (Option.some.inj hj)).1.symm, by rw [e]; rfl⟩
        split at h
        · rename_i h46
          exact hesc (.inl (by omega)) h
        · by_cases hb92 : b.toNat = 92
          · have e : ((b.toNat : Int) == 92) = true := by rw [beq_iff_eq]; omega
            rw [e] at h
            exact hesc (.inr hb92) h
          · have e : ((b.toNat : Int) == 92) = false := by rw [beq_eq_false_iff_ne]; omega
            rw [e, name_taken.j1] at h
            simp only [Bool.false_eq_true, if_false] at h
            split at h
            · split at h
              · obtain ⟨⟨v, ok⟩, hf, h⟩ := Option.bind_eq_some_iff.1 h
                dsimp only at h
                split at h
                · rename_i hok
                  have hres := h
                  subst hok
                  have hsz : (bstr (92 :: b :: r2)).size = r2.length + 2 := by rw [bstr_size]; rfl
                  obtain ⟨r', b', hf', h3⟩ := figures_f ((bstr (92 :: b :: r2)).extract 1 (mn 4 ((bstr (92 :: b :: r2)).size : Int)).toNat) (by
                    have : mn 4 ((bstr (92 :: b :: r2)).size : Int) ≤ 4 := by unfold mn; split <;> omega
                    simp; omega) _ 0 k 0 (Nat.zero_add _) (by
                    have : mn 4 ((bstr (92 :: b :: r2)).size : Int) ≤ 4 := by unfold mn; split <;> omega
                    simp; omega)
                  unfold name_figures.f at hf
                  have hb' : b' = true := by
                    have e0 : ((0 : Nat) : Int) = 0 := rfl
                    rw [e0, hf] at hf'
                    exact (Prod.mk.inj (Option.some.inj hf')).2.symm
                  have h4 := h3 hb'
                  have hlen : 2 ≤ r2.length := by
                    have : mn 4 ((bstr (92 :: b :: r2)).size : Int) ≤ (bstr (92 :: b :: r2)).size := by unfold mn; split <;> omega
                    simp at h4
                    omega
                  obtain ⟨y, r3, rfl⟩ := List.exists_cons_of_length_pos (show 0 < r2.length by omega)
                  obtain ⟨z, r4, rfl⟩ := List.exists_cons_of_length_pos (show 0 < r3.length by simp at hlen; omega)
                  have hmn : mn 4 ((bstr (92 :: b :: y :: z :: r4)).size : Int) = 4 := by
                    unfold mn; rw [bstr_size]; simp only [List.length_cons]; split <;> omega
                  have hx : (bstr (92 :: b :: y :: z :: r4)).extract 1 4 = bstr [b, y, z] := by
                    apply ba_ext
                    rw [extract_list, bstr_list, bstr_list]
                    rfl
                  rw [hmn, show ((4 : Int)).toNat = 4 from rfl, hx] at hf
                  obtain ⟨c', h5, h6, h7⟩ := figures_conv b y z k v (by omega) hf
                  have e : shownB c' = 92 :: digits3 c' := by
                    have n46 : c' ≠ 46 := fun h => h7 (by rw [h]; decide)
                    have n92 : c' ≠ 92 := fun h => h7 (by rw [h]; decide)
                    unfold shownB
                    rw [if_neg (by rintro (h | h); exact n46 h; exact n92 h), if_neg (fun hh : 33 ≤ c' ∧ c' ≤ 126 => h7 ⟨(u8_le.1 hh.1 : (33 : UInt8).toNat ≤ c'.toNat), (u8_le.1 hh.2 : c'.toNat ≤ (126 : UInt8).toNat)⟩)]
                  exact ⟨c', r4, by rw [← h5]; exact (Prod.mk.inj (Option.some.inj hres)).1.symm, by rw [e, h6]; rfl⟩
                · have := (Prod.mk.inj (Option.some.inj h)).2; omega
              · cases h
            · cases h
    · rw [hno] at h
      have := (Prod.mk.inj (Option.some.inj h)).2; omega
end Go.Proofs.YthkpanggjbckkaaDoor.PN
namespace Go.Proofs.YthkpanggjbckkaaDoor.PN
open Go.RowKit Go.Shelf Go.Proofs.YthkpanggjbckkaaDoorW.PrintWords Go.Proofs.YthkpanggjbckkaaDoorW.PrintLast Go.Proofs.YthkpanggjbckkaaDoorW.PrintMore

/-- A text that begins with a byte's text. -/
def Tok (l : List UInt8) : Prop := ∃ c r, l = shownB c ++ r
theorem shownB_pos (c : UInt8) : 0 < (shownB c).length := by
  unfold shownB
  split
  · simp
  · split <;> simp
theorem tok_one {c c' : UInt8} {r r' : List UInt8} (h : shownB c ++ r = shownB c' ++ r') : c = c' := by
  have h1 := taken_one c r (k := 11) (by omega)
  have h2 := taken_one c' r' (k := 11) (by omega)
  rw [h, h2] at h1
  have := (Prod.mk.inj (Option.some.inj h1)).1
  exact UInt8.toNat_inj.1 (by omega)
theorem tok_point (r : List UInt8) : ¬ Tok (46 :: r) := by
  rintro ⟨c, q, h⟩
  unfold shownB at h
  split at h
  · have := (List.cons.inj h).1; revert this; decide
  · rename_i hc
    split at h
    · exact hc (.inl (List.cons.inj h).1.symm)
    · have := (List.cons.inj h).1; revert this; decide
theorem taken_no {l : List UInt8} (hl : 0 < l.length) (h : ¬ Tok l) (k : Nat) (hk : 20 < k) : ∃ c o, name_taken.f k (bstr l) = some (c, o) ∧ ¬ o > 0 := by
  obtain ⟨c, o, ho, h1, h2⟩ := taken_f (bstr l) k (by rw [bstr_size]; exact hl) (by omega)
  refine ⟨c, o, ho, fun hp => h ?_⟩
  obtain ⟨c', r, _, hr⟩ := taken_conv l k c o hk hl ho hp
  exact ⟨c', r, hr⟩

theorem begins_step (l : List UInt8) (i k : Nat) (hi : i < 256) (hk : 0 < k) : derrickref02_begins.l0 (k + 1) (bstr l) i =
    if shownB (UInt8.ofNat i) <+: l then some (i : Int) else derrickref02_begins.l0 k (bstr l) ((i + 1 : Nat) : Int) := by
  have e : ((i : Int)) % 256 = ((UInt8.ofNat i).toNat : Int) := by rw [UInt8.toNat_ofNat']; omega
  obtain ⟨t, ht⟩ : ∃ t, shownB (UInt8.ofNat i) = t := ⟨_, rfl⟩
  have hx : ((bstr l).extract 0 t.length).data.toList = l.take t.length := by
    rw [extract_list, bstr_list, List.drop_zero, Nat.sub_zero]
  rw [derrickref02_begins.l0, if_pos (by omega), e, one_f _ hk, ht, wrap_s (by omega)]
  simp only [Option.bind_some]
  rw [bstr_size, bstr_size]
  by_cases h1 : (l.length : Int) ≥ (t.length : Int)
  · rw [if_pos h1, if_pos (by omega), if_pos (by omega), Int.toNat_natCast]
    by_cases h2 : t <+: l
    · rw [if_pos h2, if_pos]
      rw [toList_inj]
      apply ba_ext
      rw [hx, bstr_list]
      exact (List.prefix_iff_eq_take.1 h2).symm
    · rw [if_neg h2, if_neg]
      intro h3
      rw [toList_inj] at h3
      apply h2
      rw [List.prefix_iff_eq_take, ← hx, h3, bstr_list]
  · rw [if_neg h1, if_neg]
    intro h2
    have := h2.length_le
    omega
theorem begins_end (l : List UInt8) (k : Nat) : derrickref02_begins.l0 (k + 1) (bstr l) ((256 : Nat) : Int) = some (-1) := by
  rw [derrickref02_begins.l0, if_neg (by omega)]
theorem begins_tok (c : UInt8) (r : List UInt8) {k : Nat} (hk : 300 < k) : derrickref02_begins.f k (bstr (shownB c ++ r)) = some (c.toNat : Int) := by
  have hc : c.toNat < 256 := c.toNat_lt
  have h : ∀ (d i k : Nat), i + d = c.toNat → d + 2 < k → derrickref02_begins.l0 k (bstr (shownB c ++ r)) i = some (c.toNat : Int) := by
    intro d
    induction d with
    | zero =>
      intro i k hi hk
      obtain ⟨k, rfl⟩ : ∃ j, k = j + 1 := ⟨k - 1, by omega⟩
      have e : i = c.toNat := by omega
      subst e
      rw [begins_step _ _ _ hc (by omega), UInt8.ofNat_toNat, if_pos (List.prefix_append _ _)]
    | succ d ih =>
      intro i k hi hk
      obtain ⟨k, rfl⟩ : ∃ j, k = j + 1 := ⟨k - 1, by omega⟩
      rw [begins_step _ _ _ (by omega) (by omega), if_neg, ih (i + 1) k (by omega) (by omega)]
      rintro ⟨q, hq⟩
      have := tok_one hq
      have h2 : (UInt8.ofNat i).toNat = i := by rw [UInt8.toNat_ofNat']; omega
      rw [this] at h2
      omega
  exact h c.toNat 0 k (by omega) (by omega)
theorem begins_no {l : List UInt8} (h : ¬ Tok l) {k : Nat} (hk : 300 < k) : derrickref02_begins.f k (bstr l) = some (-1) := by
  have h : ∀ (d i k : Nat), i + d = 256 → d + 2 < k → derrickref02_begins.l0 k (bstr l) i = some (-1) := by
    intro d
    induction d with
    | zero =>
      intro i k hi hk
      obtain ⟨k, rfl⟩ : ∃ j, k = j + 1 := ⟨k - 1, by omega⟩
      have e : i = 256 := by omega
      subst e
      exact begins_end l k
    | succ d ih =>
      intro i k hi hk
      obtain ⟨k, rfl⟩ : ∃ j, k = j + 1 := ⟨k - 1, by omega⟩
      rw [begins_step _ _ _ (by omega) (by omega), if_neg, ih (i + 1) k (by omega) (by omega)]
      rintro ⟨q, hq⟩
      exact h ⟨_, q, hq.symm⟩
  exact h 256 0 k (by omega) (by omega)

def nums (l : List UInt8) : List Int := l.map fun b => (b.toNat : Int)
theorem bstr_nil {l : List UInt8} : (bstr l).toList = [] ↔ l = [] := by
  rw [ByteArray.toList_eq, bstr_list]
theorem bstr_tail (a r : List UInt8) : (bstr (a ++ r)).extract a.length (bstr (a ++ r)).size = bstr r := by
  apply ba_ext
  rw [tail_list, bstr_list, bstr_list, List.drop_left]
theorem bstr_tail1 (a : UInt8) (r : List UInt8) : (bstr (a :: r)).extract 1 (bstr (a :: r)).size = bstr r := bstr_tail [a] r
theorem nums_snoc (bb : List UInt8) (c : UInt8) : nums bb ++ [(c.toNat : Int)] = nums (bb ++ [c]) := by simp [nums]
theorem nums_len (bb : List UInt8) : (nums bb).length = bb.length := by simp [nums]

theorem our_nil (L : List ByteArray) (bb : List UInt8) (lg : Bool) (k : Nat) (hL : L.length < 8796093022208) : name_Take.l0 (k + 1) L (nums bb) lg (bstr []) =
    if bb = [] then name_Take.j1 k L lg else name_Take.j1 k (L ++ [bstr bb]) lg := by
  rw [name_Take.l0, if_pos (bstr_nil.2 rfl), nums_len, if_pos hL]
  have hs : strOfNums (nums bb) = bstr bb := strOfNums_bytes bb
  rw [hs]
  by_cases h : bb = []
  · subst h; rw [if_pos rfl]; rfl
  · rw [if_neg h, if_pos]
    have := List.length_pos_iff.2 h
    omega
theorem our_tok (L : List ByteArray) (bb r : List UInt8) (c : UInt8) (lg : Bool) (k : Nat) (hk : 20 < k) (hb : bb.length < 140737488355328) : name_Take.l0 (k + 1) L (nums bb) lg (bstr (shownB c ++ r)) =
    name_Take.l0 k L (nums (bb ++ [c])) (lg || decide (bb.length + 1 > 63)) (bstr r) := by
  have hp := shownB_pos c
  have hne : (bstr (shownB c ++ r)).toList ≠ [] := fun h => by
    have := congrArg List.length (bstr_nil.1 h)
    rw [List.length_append] at this
    simp only [List.length_nil] at this
    omega
  have hz : (bstr (shownB c ++ r)).size = (shownB c).length + r.length := by rw [bstr_size, List.length_append]
  rw [name_Take.l0, if_neg hne, taken_one c r (by omega)]
  simp only [Option.bind_some]
  have hA : ((shownB c).length : Int) > 0 := by omega
  have hB : (0 : Int) ≤ ((shownB c).length : Int) := by omega
  have hC : ((shownB c).length : Int) ≤ ((bstr (shownB c ++ r)).size : Int) := by omega
  have hD : decide (((bb.length + 1 : Nat) : Int) > 63) = decide (bb.length + 1 > 63) := decide_eq_decide.2 (by omega)
  rw [if_pos hA, nums_len, if_pos hb]
  simp only [nums_snoc, Int.toNat_natCast, bstr_tail, if_pos hB, if_pos hC, nums_len, List.length_append, List.length_singleton, hD]
  cases lg
  · simp only [Bool.false_eq_true, if_false, Bool.false_or]
  · simp only [if_true, Bool.true_or]
theorem our_bad (L : List ByteArray) (bb r : List UInt8) (a : UInt8) (lg : Bool) (k : Nat) (hk : 20 < k) (hL : L.length < 8796093022208) (ht : ¬ Tok (a :: r)) : name_Take.l0 (k + 1) L (nums bb) lg (bstr (a :: r)) =
    if a = 46 ∧ bb ≠ [] then name_Take.l0 k (L ++ [bstr bb]) (nums []) lg (bstr r) else some (⟨#[]⟩, 2) := by
  have hne : (bstr (a :: r)).toList ≠ [] := fun h => by have := bstr_nil.1 h; cases this
  have hs : strOfNums (nums bb) = bstr bb := strOfNums_bytes bb
  have hz : (bstr (a :: r)).size = r.length + 1 := by rw [bstr_size]; rfl
  have b0 : bt (bstr (a :: r)) 0 = (a.toNat : Int) := bt_list0 _ (by simp)
  obtain ⟨c, o, ho, hno⟩ := taken_no (l := a :: r) (by simp) ht k hk
  rw [name_Take.l0, if_neg hne, ho]
  simp only [Option.bind_some]
  have hA : (0 : Int) < ((bstr (a :: r)).size : Int) := by omega
  have hB : (1 : Int) ≤ ((bstr (a :: r)).size : Int) := by omega
  rw [if_neg hno, if_pos hA, b0, nums_len, hs]
  simp only [if_pos hL, bstr_tail1, if_pos hB]
  by_cases ha : a = 46
  · subst ha
    rw [if_pos (show (((46 : UInt8).toNat : Nat) : Int) = 46 from rfl)]
    by_cases hb : bb = []
    · subst hb
      rw [if_neg (show ¬ ((([] : List UInt8).length : Int) > 0) by simp), if_neg (fun h => h.2 rfl)]
    · have hp := List.length_pos_iff.2 hb
      have hC : ((bb.length : Nat) : Int) > 0 := by omega
      rw [if_pos hC, if_pos (show (46 : UInt8) = 46 ∧ bb ≠ [] from ⟨rfl, hb⟩)]
      cases lg <;> rfl
  · have hn : ¬ ((a.toNat : Int) = 46) := fun h => ha (UInt8.toNat_inj.1 (by have : (46 : UInt8).toNat = 46 := rfl; omega))
    rw [if_neg hn, if_neg (fun h => ha h.1)]

/-- The reference's steps. -/
theorem lab_eq (lab : List UInt8) : ((bstr lab).toList = []) = (lab = []) := propext bstr_nil
theorem ref_nil (n bb : List UInt8) (lg : Bool) (k : Nat) (hn : n.length ≤ 4398046511104) : derrickref02_Take.l0 (k + 1) (bstr []) (bstr n) (bstr bb) lg =
    if bb = [] then (if lg = true then some (⟨#[]⟩, 3) else if n.length > 254 then some (⟨#[]⟩, 3) else some (bstr (n ++ [0]), 0)) else some (⟨#[]⟩, 2) := by
  have hA : (bstr n).size + 1 ≤ 9223372036854775807 := by rw [bstr_size]; omega
  have hB : (bstr n ++ (⟨#[0]⟩ : ByteArray)) = bstr (n ++ [0]) := bstr_append n [0]
  rw [derrickref02_Take.l0, if_pos (bstr_nil.2 rfl), if_pos hA, hB, bstr_size]
  simp only [lab_eq]
  by_cases h1 : n.length > 254
  · rw [if_pos h1, if_pos (show ((n.length : Nat) : Int) > 254 by omega)]
  · rw [if_neg h1, if_neg (show ¬ ((n.length : Nat) : Int) > 254 by omega)]
theorem ref_tok (n bb r : List UInt8) (c : UInt8) (lg : Bool) (k : Nat) (hk : 300 < k) (hb : bb.length ≤ 4398046511104) : derrickref02_Take.l0 (k + 1) (bstr (shownB c ++ r)) (bstr n) (bstr bb) lg =
    derrickref02_Take.l0 k (bstr r) (bstr n) (bstr (bb ++ [c])) lg := by
  have hp := shownB_pos c
  have hcl : c.toNat < 256 := c.toNat_lt
  have hne : (bstr (shownB c ++ r)).toList ≠ [] := fun h => by
    have := congrArg List.length (bstr_nil.1 h)
    rw [List.length_append] at this
    simp only [List.length_nil] at this
    omega
  have hz : (bstr (shownB c ++ r)).size = (shownB c).length + r.length := by rw [bstr_size, List.length_append]
  have e : ((c.toNat : Int)) % 256 = (c.toNat : Int) := by omega
  have hs : strOfNums [(c.toNat : Int)] = bstr [c] := strOfNums_bytes [c]
  have hA : (bstr bb).size + (bstr [c]).size ≤ 9223372036854775807 := by rw [bstr_size, bstr_size]; simp only [List.length_singleton]; omega
  have hB : (0 : Int) ≤ (((bstr (shownB c)).size : Nat) : Int) := by omega
  have hC : (((bstr (shownB c)).size : Nat) : Int) ≤ ((bstr (shownB c ++ r)).size : Int) := by rw [hz, bstr_size]; omega
  have hx : (bstr (shownB c ++ r)).extract (bstr (shownB c)).size (bstr (shownB c ++ r)).size = bstr r := by rw [bstr_size (shownB c)]; exact bstr_tail _ _
  rw [derrickref02_Take.l0, if_neg hne, begins_tok c r hk]
  simp only [Option.bind_some]
  rw [if_pos (show (c.toNat : Int) ≥ 0 by omega), e, hs, if_pos hA, one_f c (by omega)]
  simp only [Option.bind_some]
  rw [if_pos hB, if_pos hC, Int.toNat_natCast, hx, bstr_append]
theorem ref_bad (n bb r : List UInt8) (a : UInt8) (lg : Bool) (k : Nat) (hk : 300 < k) (hn : n.length ≤ 4398046511104) (hb : bb.length + 10 < k) (hb2 : bb.length ≤ 100000) (ht : ¬ Tok (a :: r)) : derrickref02_Take.l0 (k + 1) (bstr (a :: r)) (bstr n) (bstr bb) lg =
    if a = 46 ∧ bb ≠ [] then derrickref02_Take.l0 k (bstr r) (bstr (n ++ labelBytes (bstr bb))) (bstr []) (lg || decide (bb.length > 63)) else some (⟨#[]⟩, 2) := by
  have hne : (bstr (a :: r)).toList ≠ [] := fun h => by have := bstr_nil.1 h; cases this
  have hz : (bstr (a :: r)).size = r.length + 1 := by rw [bstr_size]; rfl
  have b0 : bt (bstr (a :: r)) 0 = (a.toNat : Int) := bt_list0 _ (by simp)
  have hA : (0 : Int) < ((bstr (a :: r)).size : Int) := by omega
  have hB : (1 : Int) ≤ ((bstr (a :: r)).size : Int) := by omega
  have e : (((bstr bb).size : Nat) : Int) % 256 = ((UInt8.ofNat (bstr bb).size).toNat : Int) := by rw [UInt8.toNat_ofNat']; omega
  have hs : strOfNums [((UInt8.ofNat (bstr bb).size).toNat : Int)] = bstr [UInt8.ofNat (bstr bb).size] := strOfNums_bytes [UInt8.ofNat (bstr bb).size]
  have h1 : (bstr [UInt8.ofNat (bstr bb).size]).size = 1 := rfl
  have hC : (bstr n).size + (bstr [UInt8.ofNat (bstr bb).size]).size ≤ 9223372036854775807 := by rw [h1, bstr_size]; omega
  have hf : derrickref02_Fold.f k (bstr bb) = some (bstr (foldL bb)) := by
    have h := rfold_f (s := bstr bb) (by rw [bstr_size]; omega) (k := k) (by rw [bstr_size]; omega)
    rw [bstr_list] at h; exact h
  have hD : (bstr n ++ bstr [UInt8.ofNat (bstr bb).size]).size + (bstr (foldL bb)).size ≤ 9223372036854775807 := by
    rw [ByteArray.size_append, h1, bstr_size, bstr_size, foldL_len]; omega
  have hE : bstr n ++ bstr [UInt8.ofNat (bstr bb).size] ++ bstr (foldL bb) = bstr (n ++ labelBytes (bstr bb)) := by
    rw [bstr_append, bstr_append, labelBytes, bstr_list, List.append_assoc]; rfl
  have hF : decide ((((bstr bb).size : Nat) : Int) > 63) = decide (bb.length > 63) := by rw [bstr_size]; exact decide_eq_decide.2 (by omega)
  have hG : (⟨#[]⟩ : ByteArray) = bstr [] := rfl
  rw [derrickref02_Take.l0, if_neg hne, begins_no ht hk]
  simp only [Option.bind_some]
  rw [if_neg (show ¬ ((-1 : Int) ≥ 0) by omega), if_pos hA, b0, e, hs, hf, hF]
  simp only [Option.bind_some, if_pos hC, if_pos hD, if_pos hB, bstr_tail1, hE, lab_eq]
  by_cases ha : a = 46
  · subst ha
    rw [if_pos (show (((46 : UInt8).toNat : Nat) : Int) = 46 from rfl)]
    by_cases hb : bb = []
    · rw [if_pos hb, if_neg (fun h => h.2 hb)]
    · rw [if_neg hb, if_pos (show (46 : UInt8) = 46 ∧ bb ≠ [] from ⟨rfl, hb⟩)]
      cases lg
      · simp only [Bool.false_eq_true, if_false, Bool.false_or]; rfl
      · simp only [if_true, Bool.true_or]; rfl
  · have hn : ¬ ((a.toNat : Int) = 46) := fun h => ha (UInt8.toNat_inj.1 (by have : (46 : UInt8).toNat = 46 := rfl; omega))
    rw [if_neg hn, if_neg (fun h => ha h.1)]
end Go.Proofs.YthkpanggjbckkaaDoor.PN
namespace Go.Proofs.YthkpanggjbckkaaDoor.PN
open Go.RowKit Go.Shelf Go.Proofs.YthkpanggjbckkaaDoorW.PrintWords Go.Proofs.YthkpanggjbckkaaDoorW.PrintLast Go.Proofs.YthkpanggjbckkaaDoorW.PrintMore

/-- How a text is read to its end: none: not at all; some b: is its last byte (b ahead of it all) that of a label? -/
inductive St : List UInt8 → Bool → Option Bool → Prop
  | nil (b : Bool) : St [] b (some b)
  | tok (c : UInt8) (r : List UInt8) (b : Bool) (f : Option Bool) : St r true f → St (shownB c ++ r) b f
  | sep (r : List UInt8) (f : Option Bool) : St r false f → St (46 :: r) true f
  | bad (a : UInt8) (r : List UInt8) (b : Bool) : ¬ Tok (a :: r) → ¬ (a = 46 ∧ b = true) → St (a :: r) b none

theorem st_ex : ∀ (n : Nat) (l : List UInt8) (b : Bool), l.length ≤ n → ∃ f, St l b f := by
  intro n
  induction n with
  | zero =>
    intro l b hl
    have : l = [] := List.length_eq_zero_iff.1 (by omega)
    subst this
    exact ⟨_, .nil b⟩
  | succ n ih =>
    intro l b hl
    rcases l with _ | ⟨a, r⟩
    · exact ⟨_, .nil b⟩
    · by_cases ht : Tok (a :: r)
      · obtain ⟨c, q, hq⟩ := ht
        have hp := shownB_pos c
        have hlen : (a :: r).length = (shownB c).length + q.length := by rw [hq, List.length_append]
        obtain ⟨f, hf⟩ := ih q true (by omega)
        rw [hq]
        exact ⟨f, .tok c q b f hf⟩
      · by_cases h : a = 46 ∧ b = true
        · obtain ⟨rfl, rfl⟩ := h
          obtain ⟨f, hf⟩ := ih r false (by simp at hl; omega)
          exact ⟨f, .sep r f hf⟩
        · exact ⟨none, .bad a r b ht h⟩

theorem open_st {l : List UInt8} {b : Bool} {f : Option Bool} (h : St l b f) : ∀ g, f = some g → ∀ k, 300 + l.length < k → derrickref02_open.l0 k (bstr l) b = some g := by
  induction h with
  | nil b =>
    intro g hg k hk
    obtain ⟨k, rfl⟩ : ∃ j, k = j + 1 := ⟨k - 1, by omega⟩
    rw [derrickref02_open.l0, if_pos (bstr_nil.2 rfl)]
    exact hg
  | tok c r b f _ ih =>
    intro g hg k hk
    obtain ⟨k, rfl⟩ : ∃ j, k = j + 1 := ⟨k - 1, by omega⟩
    have hp := shownB_pos c
    have hcl : c.toNat < 256 := c.toNat_lt
    rw [List.length_append] at hk
    have hne : (bstr (shownB c ++ r)).toList ≠ [] := fun h => by
      have := congrArg List.length (bstr_nil.1 h)
      rw [List.length_append] at this
      simp only [List.length_nil] at this
      omega
    have e : ((c.toNat : Int)) % 256 = (c.toNat : Int) := by omega
    have hB : (0 : Int) ≤ (((bstr (shownB c)).size : Nat) : Int) := by omega
    have hC : (((bstr (shownB c)).size : Nat) : Int) ≤ ((bstr (shownB c ++ r)).size : Int) := by rw [bstr_size, bstr_size, List.length_append]; omega
    have hx : (bstr (shownB c ++ r)).extract (bstr (shownB c)).size (bstr (shownB c ++ r)).size = bstr r := by rw [bstr_size (shownB c)]; exact bstr_tail _ _
    rw [derrickref02_open.l0, if_neg hne, begins_tok c r (by omega)]
    simp only [Option.bind_some]
    rw [if_pos (show (c.toNat : Int) ≥ 0 by omega), e, one_f c (by omega)]
    simp only [Option.bind_some]
    rw [if_pos hB, if_pos hC, Int.toNat_natCast, hx]
    exact ih g hg k (by omega)
  | sep r f _ ih =>
    intro g hg k hk
    obtain ⟨k, rfl⟩ : ∃ j, k = j + 1 := ⟨k - 1, by omega⟩
    have hne : (bstr (46 :: r)).toList ≠ [] := fun h => by have := bstr_nil.1 h; cases this
    have hz : (bstr (46 :: r)).size = r.length + 1 := by rw [bstr_size]; rfl
    simp only [List.length_cons] at hk
    rw [derrickref02_open.l0, if_neg hne, begins_no (tok_point r) (by omega)]
    simp only [Option.bind_some]
    rw [if_neg (show ¬ ((-1 : Int) ≥ 0) by omega), if_pos (show (1 : Int) ≤ ((bstr (46 :: r)).size : Int) by omega), bstr_tail1]
    exact ih g hg k (by omega)
  | bad a r b _ _ => intro g hg; cases hg

theorem st_nil {l : List UInt8} {b : Bool} {f : Option Bool} (h : St l b f) (hl : l = []) : f = some b := by
  cases h with
  | nil => rfl
  | tok c r =>
    have hp := shownB_pos c
    have := congrArg List.length hl
    rw [List.length_append] at this
    simp only [List.length_nil] at this
    omega
  | sep => cases hl
  | bad => cases hl
theorem st_point {l : List UInt8} {b : Bool} {f : Option Bool} (h : St l b f) : f = some false → l = [] ∨ l.getLast? = some 46 := by
  induction h with
  | nil b => intro _; exact .inl rfl
  | tok c r b f hr ih =>
    intro hf
    right
    rcases ih hf with h | h
    · subst h
      have := st_nil hr rfl
      rw [hf] at this
      cases this
    · rw [List.getLast?_append, h]; rfl
  | sep r f hr ih =>
    intro hf
    right
    rcases ih hf with h | h
    · subst h; rfl
    · rw [List.getLast?_cons, h]; rfl
  | bad a r b _ _ => intro hf; cases hf
theorem st_byte {l : List UInt8} {b : Bool} {f : Option Bool} (h : St l b f) : f = some true → l = [] ∨ ∃ q c, l = q ++ shownB c := by
  induction h with
  | nil b => intro _; exact .inl rfl
  | tok c r b f hr ih =>
    intro hf
    right
    rcases ih hf with h | ⟨q, c', h⟩
    · subst h; exact ⟨[], c, by simp⟩
    · subst h; exact ⟨shownB c ++ q, c', by simp⟩
  | sep r f hr ih =>
    intro hf
    right
    rcases ih hf with h | ⟨q, c', h⟩
    · subst h
      have := st_nil hr rfl
      rw [hf] at this
      cases this
    · subst h; exact ⟨46 :: q, c', rfl⟩
  | bad a r b _ _ => intro hf; cases hf
set_option maxRecDepth 100000 in
theorem last_all : ∀ c : Fin 256, (shownB (UInt8.ofNat c.val)).getLast? = some 46 → c.val = 46 := by
  decide +kernel
theorem last_point {c : UInt8} (h : (shownB c).getLast? = some 46) : c = 46 := by
  have := last_all ⟨c.toNat, c.toNat_lt⟩ (by simpa using h)
  exact UInt8.toNat_inj.1 this

/-- What both tell at the end. -/
theorem ends_same (L : List ByteArray) (lg : Bool) (k j : Nat) (hL : L ≠ []) (hl : L.length ≤ 100000) (h1 : ∀ a ∈ L, 1 ≤ a.size) (h2 : lg = false → ∀ a ∈ L, a.size ≤ 63) (hn : (joinB L).length ≤ 4398046511104) :
    name_Take.j1 (k + 1) L lg = derrickref02_Take.l0 (j + 1) (bstr []) (bstr (joinB L)) (bstr []) lg := by
  rw [ref_nil _ _ _ _ hn, if_pos rfl, name_Take.j1]
  have hp := List.length_pos_iff.2 hL
  rw [if_neg (show ¬ ((L.length : Int) = 0) by omega)]
  cases lg
  · simp only [Bool.false_eq_true, if_false]
    have hok : joinOk L = true := by
      simp only [joinOk, List.all_eq_true]
      exact fun a ha => ok_iff.2 ⟨h1 a ha, h2 rfl a ha⟩
    have hw : (wire L).size = (joinB L).length + 1 := wire_size L
    unfold name_Join.f
    rw [if_pos (by omega), join_eq]
    simp only [Option.bind_some]
    by_cases h : (joinB L).length > 254
    · rw [if_pos h, if_neg (fun hh => by have := hh.2; omega), if_pos hok]
    · rw [if_neg h, if_pos ⟨hok, by omega⟩]; rfl
  · simp only [if_true]
theorem joinB_snoc (L : List ByteArray) (a : ByteArray) : joinB (L ++ [a]) = joinB L ++ labelBytes a := by simp [joinB]
theorem labelBytes_len (bb : List UInt8) : (labelBytes (bstr bb)).length = bb.length + 1 := by
  rw [labelBytes, List.length_cons, foldL_len, bstr_list]

/-- The reference reads the same text, or the text with a point behind it. -/
theorem take_sim (pt : Bool) {l : List UInt8} {b : Bool} {f : Option Bool} (h : St l b f) : f ≠ some (!pt) → ∀ (L : List ByteArray) (bb : List UInt8) (lg : Bool) (k j : Nat),
    b = decide (bb ≠ []) → (L ≠ [] ∨ b = true ∨ l ≠ []) → (∀ a ∈ L, 1 ≤ a.size) → (lg = false → ∀ a ∈ L, a.size ≤ 63) → L.length + bb.length + l.length ≤ 10000 → (joinB L).length + 2 * bb.length + 2 * l.length ≤ 100000 → 20000 + l.length ≤ k → 20000 + l.length ≤ j →
    name_Take.l0 k L (nums bb) (lg || decide (bb.length > 63)) (bstr l) = derrickref02_Take.l0 j (bstr (l ++ if pt = true then [46] else [])) (bstr (joinB L)) (bstr bb) lg := by
  induction h with
  | nil b =>
    intro hf L bb lg k j hb hL h1 h2 hs hn hk hj
    obtain ⟨k, rfl⟩ : ∃ i, k = i + 2 := ⟨k - 2, by omega⟩
    obtain ⟨j, rfl⟩ : ∃ i, j = i + 2 := ⟨j - 2, by omega⟩
    have hbp : b = pt := by cases b <;> cases pt <;> simp_all
    rw [our_nil _ _ _ _ (by omega)]
    cases pt
    · have hbb : bb = [] := by
        have : decide (bb ≠ []) = false := by rw [← hb, hbp]
        simpa using this
      subst hbb
      have hL2 : L ≠ [] := by
        rcases hL with h | h | h
        · exact h
        · rw [hbp] at h; cases h
        · exact absurd rfl h
      rw [if_pos rfl]
      have e : (lg || decide (([] : List UInt8).length > 63)) = lg := by simp
      rw [e]
      exact ends_same L lg k (j + 1) hL2 (by omega) h1 h2 (by omega)
    · have hbb : bb ≠ [] := by
        have : decide (bb ≠ []) = true := by rw [← hb, hbp]
        exact of_decide_eq_true this
      have hp := List.length_pos_iff.2 hbb
      rw [if_neg hbb, if_pos rfl, List.nil_append, ref_bad _ _ _ _ _ _ (by omega) (by omega) (by simp at hs; omega) (by simp at hs; omega) (tok_point []), if_pos ⟨rfl, hbb⟩, ← joinB_snoc]
      refine ends_same _ _ k j (by simp) (by simp at hs ⊢; omega) ?_ ?_ (by rw [joinB_snoc, List.length_append, labelBytes_len]; simp at hn; omega)
      · intro a ha
        rcases List.mem_append.1 ha with ha | ha
        · exact h1 a ha
        · rw [List.mem_singleton.1 ha, bstr_size]; exact hp
      · intro hl a ha
        rw [Bool.or_eq_false_iff] at hl
        rcases List.mem_append.1 ha with ha | ha
        · exact h2 hl.1 a ha
        · rw [List.mem_singleton.1 ha, bstr_size]
          have := of_decide_eq_false hl.2
          omega
  | tok c r b f hr ih =>
    intro hf L bb lg k j hb hL h1 h2 hs hn hk hj
    have hp := shownB_pos c
    rw [List.length_append] at hs hn hk hj
    obtain ⟨k, rfl⟩ : ∃ i, k = i + 1 := ⟨k - 1, by omega⟩
    obtain ⟨j, rfl⟩ : ∃ i, j = i + 1 := ⟨j - 1, by omega⟩
    rw [our_tok _ _ _ _ _ _ (by omega) (by omega), List.append_assoc, ref_tok _ _ _ _ _ _ (by omega) (by omega)]
    have hih := ih hf L (bb ++ [c]) lg k j (by simp) (.inr (.inl rfl)) h1 h2 (by rw [List.length_append, List.length_singleton]; omega) (by rw [List.length_append, List.length_singleton]; omega) (by omega) (by omega)
    rw [← hih]
    have e : ((lg || decide (bb.length > 63)) || decide (bb.length + 1 > 63)) = (lg || decide ((bb ++ [c]).length > 63)) := by
      rw [List.length_append, List.length_singleton, Bool.or_assoc]
      congr 1
      by_cases h : bb.length + 1 > 63
      · rw [decide_eq_true h, Bool.or_true]
      · rw [decide_eq_false h, Bool.or_false]
        exact decide_eq_false (by omega)
    rw [e]
  | sep r f hr ih =>
    intro hf L bb lg k j hb hL h1 h2 hs hn hk hj
    simp only [List.length_cons] at hs hn hk hj
    obtain ⟨k, rfl⟩ : ∃ i, k = i + 1 := ⟨k - 1, by omega⟩
    obtain ⟨j, rfl⟩ : ∃ i, j = i + 1 := ⟨j - 1, by omega⟩
    have hbb : bb ≠ [] := of_decide_eq_true hb.symm
    have hp := List.length_pos_iff.2 hbb
    rw [our_bad _ _ _ _ _ _ (by omega) (by omega) (tok_point r), if_pos ⟨rfl, hbb⟩, List.cons_append, ref_bad _ _ _ _ _ _ (by omega) (by omega) (by omega) (by omega) (tok_point _), if_pos ⟨rfl, hbb⟩, ← joinB_snoc]
    have hih := ih hf (L ++ [bstr bb]) [] (lg || decide (bb.length > 63)) k j (by simp) (.inl (by simp)) ?_ ?_ (by rw [List.length_append, List.length_singleton, List.length_nil]; omega) (by rw [joinB_snoc, List.length_append, labelBytes_len, List.length_nil]; omega) (by omega) (by omega)
    · rw [← hih]
      have e : ((lg || decide (bb.length > 63)) || decide (([] : List UInt8).length > 63)) = (lg || decide (bb.length > 63)) := by simp
      rw [e]
    · intro a ha
      rcases List.mem_append.1 ha with ha | ha
      · exact h1 a ha
      · rw [List.mem_singleton.1 ha, bstr_size]; exact hp
    · intro hl a ha
      rw [Bool.or_eq_false_iff] at hl
      rcases List.mem_append.1 ha with ha | ha
      · exact h2 hl.1 a ha
      · rw [List.mem_singleton.1 ha, bstr_size]
        have := of_decide_eq_false hl.2
        omega
  | bad a r b ht hab =>
    intro hf L bb lg k j hb hL h1 h2 hs hn hk hj
    simp only [List.length_cons] at hs hn hk hj
    obtain ⟨k, rfl⟩ : ∃ i, k = i + 1 := ⟨k - 1, by omega⟩
    obtain ⟨j, rfl⟩ : ∃ i, j = i + 2 := ⟨j - 2, by omega⟩
    have hno : ¬ (a = 46 ∧ bb ≠ []) := fun h => hab ⟨h.1, by rw [hb]; exact decide_eq_true h.2⟩
    rw [our_bad _ _ _ _ _ _ (by omega) (by omega) ht, if_neg hno, List.cons_append]
    by_cases ht2 : Tok (a :: (r ++ if pt = true then [46] else []))
    · obtain ⟨c, q, hq⟩ := ht2
      have hq0 : q = [] := by
        by_cases hq0 : q = []
        · exact hq0
        · exfalso
          cases pt
          · apply ht
            refine ⟨c, q, ?_⟩
            rw [← hq]; simp
          · apply ht
            refine ⟨c, q.dropLast, ?_⟩
            have h3 := congrArg List.dropLast hq
            rw [List.dropLast_append_of_ne_nil hq0] at h3
            rw [← h3]
            simp only [if_true]
            rw [← List.cons_append, List.dropLast_concat]
      subst hq0
      rw [hq, ref_tok _ _ _ _ _ _ (by omega) (by omega), ref_nil _ _ _ _ (by omega), if_neg (by simp)]
    · rw [ref_bad _ _ _ _ _ _ (by omega) (by omega) (by omega) (by omega) ht2, if_neg hno]
end Go.Proofs.YthkpanggjbckkaaDoor.PN
namespace Go.Proofs.YthkpanggjbckkaaDoor.PN
open Go.RowKit Go.Shelf Go.Proofs.YthkpanggjbckkaaDoorW.PrintWords Go.Proofs.YthkpanggjbckkaaDoorW.PrintLast Go.Proofs.YthkpanggjbckkaaDoorW.PrintMore

theorem open_total : ∀ (n : Nat) (l : List UInt8) (b : Bool) (k : Nat), l.length ≤ n → 300 + l.length < k → ∃ t, derrickref02_open.l0 k (bstr l) b = some t := by
  intro n
  induction n with
  | zero =>
    intro l b k hl hk
    obtain ⟨k, rfl⟩ : ∃ j, k = j + 1 := ⟨k - 1, by omega⟩
    have : l = [] := List.length_eq_zero_iff.1 (by omega)
    subst this
    exact ⟨b, by rw [derrickref02_open.l0, if_pos (bstr_nil.2 rfl)]⟩
  | succ n ih =>
    intro l b k hl hk
    obtain ⟨k, rfl⟩ : ∃ j, k = j + 1 := ⟨k - 1, by omega⟩
    rcases l with _ | ⟨a, r⟩
    · exact ⟨b, by rw [derrickref02_open.l0, if_pos (bstr_nil.2 rfl)]⟩
    · have hne : (bstr (a :: r)).toList ≠ [] := fun h => by have := bstr_nil.1 h; cases this
      have hz : (bstr (a :: r)).size = r.length + 1 := by rw [bstr_size]; rfl
      by_cases ht : Tok (a :: r)
      · obtain ⟨c, q, hq⟩ := ht
        have hp := shownB_pos c
        have hcl : c.toNat < 256 := c.toNat_lt
        have hlen : (a :: r).length = (shownB c).length + q.length := by rw [hq, List.length_append]
        rw [hq] at hne ⊢
        have e : ((c.toNat : Int)) % 256 = (c.toNat : Int) := by omega
        have hB : (0 : Int) ≤ (((bstr (shownB c)).size : Nat) : Int) := by omega
        have hC : (((bstr (shownB c)).size : Nat) : Int) ≤ ((bstr (shownB c ++ q)).size : Int) := by rw [bstr_size, bstr_size, List.length_append]; omega
        have hx : (bstr (shownB c ++ q)).extract (bstr (shownB c)).size (bstr (shownB c ++ q)).size = bstr q := by rw [bstr_size (shownB c)]; exact bstr_tail _ _
        rw [derrickref02_open.l0, if_neg hne, begins_tok c q (by omega)]
        simp only [Option.bind_some]
        rw [if_pos (show (c.toNat : Int) ≥ 0 by omega), e, one_f c (by omega)]
        simp only [Option.bind_some]
        rw [if_pos hB, if_pos hC, Int.toNat_natCast, hx]
        exact ih q true k (by omega) (by omega)
      · simp only [List.length_cons] at hl hk
        rw [derrickref02_open.l0, if_neg hne, begins_no ht (by omega)]
        simp only [Option.bind_some]
        rw [if_neg (show ¬ ((-1 : Int) ≥ 0) by omega), if_pos (show (1 : Int) ≤ ((bstr (a :: r)).size : Int) by omega), bstr_tail1]
        exact ih r false k (by omega) (by omega)

theorem take_eq (l : List UInt8) (hl : l.length ≤ 1000) (k : Nat) (hk : 40000 < k) : name_Take.f k (bstr l) = derrickref02_Take.f k (bstr l) := by
  obtain ⟨k, rfl⟩ : ∃ j, k = j + 2 := ⟨k - 2, by omega⟩
  have hz : (bstr l).size = l.length := bstr_size l
  have hL : (bstr l).toList = l := by rw [ByteArray.toList_eq, bstr_list]
  have hp46 : (strOfNums [46]).toList = [46] := by decide +kernel
  unfold name_Take.f derrickref02_Take.f
  rw [hL, hp46]
  by_cases h46 : l = [46]
  · rw [if_pos h46, if_pos h46]
  · rw [if_neg h46, if_neg h46]
    by_cases h0 : l = []
    · subst h0
      rw [if_pos rfl]
      show name_Take.l0 (k + 2) [] (nums []) false (bstr []) = _
      rw [our_nil _ _ _ _ (by simp), if_pos rfl, name_Take.j1, if_pos (by simp)]
    · rw [if_neg h0]
      have hpos := List.length_pos_iff.2 h0
      obtain ⟨f, hf⟩ := st_ex l.length l false (Nat.le_refl _)
      -- both ways to go on
      have hgo : ∀ pt j, 30000 < j → f ≠ some (!pt) → name_Take.l0 (k + 2) [] [] false (bstr l) = derrickref02_Take.l0 j (bstr (l ++ if pt = true then [46] else [])) ⟨#[]⟩ ⟨#[]⟩ false := by
        intro pt j hj hpt
        exact take_sim pt hf hpt [] [] false (k + 2) j rfl (.inr (.inr h0)) (fun a ha => by cases ha) (fun _ a ha => by cases ha) (by simp; omega) (by simp [joinB]; omega) (by omega) (by omega)
      have hdot : ∀ j, 30003 < j → f ≠ some false → derrickref02_Take.j0 j (bstr l) true = name_Take.l0 (k + 2) [] [] false (bstr l) := by
        intro j hj hff
        obtain ⟨j, rfl⟩ : ∃ i, j = i + 2 := ⟨j - 2, by omega⟩
        have e : bstr l ++ (⟨#[46]⟩ : ByteArray) = bstr (l ++ [46]) := bstr_append l [46]
        have hs : (bstr l).size + 1 ≤ 9223372036854775807 := by omega
        rw [derrickref02_Take.j0, if_pos rfl, if_pos hs, derrickref02_Take.j1, e]
        exact (hgo true j (by omega) hff).symm
      have hnodot : ∀ j, 30003 < j → f ≠ some true → derrickref02_Take.j0 j (bstr l) false = name_Take.l0 (k + 2) [] [] false (bstr l) := by
        intro j hj hff
        obtain ⟨j, rfl⟩ : ∃ i, j = i + 2 := ⟨j - 2, by omega⟩
        rw [derrickref02_Take.j0, if_neg (by simp), derrickref02_Take.j1]
        have := hgo false j (by omega) hff
        rw [this]
        simp
      have e1 : wrap64 (((bstr l).size : Int) - 1) = ((l.length - 1 : Nat) : Int) := wrap_small (by omega) (by omega) (by omega)
      have hb1 : bt (bstr l) ((l.length - 1 : Nat) : Int) = ((l[l.length - 1]'(by omega)).toNat : Int) := bt_list l _ (by omega)
      have hlast : l.getLast? = some (l[l.length - 1]'(by omega)) := by
        rw [List.getLast?_eq_getElem?, List.getElem?_eq_getElem (by omega)]
      rw [e1]
      clear e1
      rw [if_pos (show (0 : Int) ≤ ((l.length - 1 : Nat) : Int) by omega), if_pos (show ((l.length - 1 : Nat) : Int) < ((bstr l).size : Int) by omega), hb1]
      by_cases hl46 : l[l.length - 1]'(by omega) = 46
      · rw [hl46] at hlast ⊢
        have h2 : 1 < l.length := by
          apply Nat.lt_of_le_of_ne hpos
          intro h1
          apply h46
          obtain ⟨a, ha⟩ := List.length_eq_one_iff.1 h1.symm
          subst ha
          simp at hlast
          rw [hlast]
        rw [if_pos (show ((46 : UInt8).toNat : Int) = 46 from rfl), if_pos (show ((bstr l).size : Int) > 1 by omega)]
        have e2 : wrap64 (((bstr l).size : Int) - 2) = ((l.length - 2 : Nat) : Int) := wrap_small (by omega) (by omega) (by omega)
        have hb2 : bt (bstr l) ((l.length - 2 : Nat) : Int) = ((l[l.length - 2]'(by omega)).toNat : Int) := bt_list l _ (by omega)
        rw [e2]
        clear e2
        rw [if_pos (show (0 : Int) ≤ ((l.length - 2 : Nat) : Int) by omega), if_pos (show ((l.length - 2 : Nat) : Int) < ((bstr l).size : Int) by omega), hb2]
        by_cases h92 : ((l[l.length - 2]'(by omega)).toNat : Int) = 92
        · rw [if_pos h92]
          unfold derrickref02_open.f
          rcases f with _ | g
          · obtain ⟨t, ht⟩ := open_total l.length l false (k + 2) (Nat.le_refl _) (by omega)
            rw [ht]
            simp only [Option.bind_some]
            cases t
            · exact (hnodot _ (by omega) (by simp)).symm
            · exact (hdot _ (by omega) (by simp)).symm
          · rw [open_st hf g rfl (k + 2) (by omega)]
            simp only [Option.bind_some]
            cases g
            · exact (hnodot _ (by omega) (by simp)).symm
            · exact (hdot _ (by omega) (by simp)).symm
        · rw [if_neg h92]
          refine (hnodot _ (by omega) ?_).symm
          intro hff
          rcases st_byte hf hff with h | ⟨q, c, h⟩
          · exact h0 h
          · have hc : c = 46 := by
              apply last_point
              have h3 := hlast
              rw [h, List.getLast?_append] at h3
              have hp := shownB_pos c
              cases hgl : (shownB c).getLast? with
              | none => rw [List.getLast?_eq_none_iff] at hgl; rw [hgl] at hp; simp at hp
              | some x => rw [hgl] at h3; exact h3
            subst hc
            have e46 : shownB 46 = [92, 46] := by decide
            rw [e46] at h
            subst h
            apply h92
            have e3 : (q ++ [92, 46]).length - 2 = q.length := by simp
            simp
      · rw [if_neg (fun h => hl46 (UInt8.toNat_inj.1 (by have : (46 : UInt8).toNat = 46 := rfl; omega)))]
        refine (hdot _ (by omega) ?_).symm
        intro hff
        rcases st_point hf hff with h | h
        · exact h0 h
        · rw [hlast] at h
          exact hl46 (Option.some.inj h)
theorem take_eqB (s : ByteArray) (hs : s.size ≤ 1000) (k : Nat) (hk : 40000 < k) : name_Take.f k s = derrickref02_Take.f k s := by
  have h := take_eq s.data.toList (by rw [data_length]; exact hs) k hk
  rw [bstr_data] at h
  exact h
end Go.Proofs.YthkpanggjbckkaaDoor.PN
