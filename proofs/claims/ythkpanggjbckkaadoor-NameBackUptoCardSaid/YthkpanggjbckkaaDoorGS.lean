import Derived.Test.YthkpanggjbckkaaDoorGJ
import Derived.Test.YthkpanggjbckkaaDoorReg
import Derived.Deep.Cut
namespace Go.Proofs.YthkpanggjbckkaaDoor.PN
open Go.RowKit Go.Shelf Go.Proofs.YthkpanggjbckkaaDoorW.PrintWords Go.Proofs.YthkpanggjbckkaaDoorW.PrintLast Go.Proofs.YthkpanggjbckkaaDoorW.PrintMore

def digits3 (c : UInt8) : List UInt8 := [48 + c / 100, 48 + c / 10 % 10, 48 + c % 10]
/-- A byte of a label as a text. -/
def shownB (c : UInt8) : List UInt8 := if c = 46 ∨ c = 92 then [92, c] else if 33 ≤ c ∧ c ≤ 126 then [c] else 92 :: digits3 c

theorem u8_le {a b : UInt8} : a ≤ b ↔ a.toNat ≤ b.toNat := UInt8.le_iff_toNat_le
theorem u8_eq {a b : UInt8} : a = b ↔ a.toNat = b.toNat := UInt8.toNat_inj.symm
set_option maxRecDepth 100000 in
theorem digits_all : ∀ c : Fin 256, (Lib.decDigits c.val).length ≤ 3 ∧ 1 ≤ (Lib.decDigits c.val).length ∧ Lib.repeatL [48] (3 - (Lib.decDigits c.val).length) ++ Lib.decDigits c.val = digits3 (UInt8.ofNat c.val) := by
  decide +kernel

theorem conv1 (W : World) (g : Nat) (x : UInt8) (h : W.cell? ⟨g, 0, none⟩ = some (.int .u8 x.toNat)) :
    (convert 45 9 (.slice (some ⟨g, 0, none⟩) 1 1)).run Tryd.prog W = .ok (.string (bstr [x])) W := by
  have := run_convert_bytes_arg (P := Tryd.prog) W 45 5 Tryd.underlying45 Tryd.underlying5 g 0 1 1 [(x.toNat : Int)] rfl (fun i hi => by
    match i, hi with
    | 0, _ => exact h) 9 Tryd.underlying9
  rw [this, show ([(x.toNat : Int)] : List Int) = [x].map fun b => (b.toNat : Int) from rfl, strOfNums_bytes]
theorem conv2 (W : World) (g : Nat) (x y : UInt8) (h : W.cell? ⟨g, 0, none⟩ = some (.int .u8 x.toNat)) (h' : W.cell? ⟨g, 1, none⟩ = some (.int .u8 y.toNat)) :
    (convert 45 9 (.slice (some ⟨g, 0, none⟩) 2 2)).run Tryd.prog W = .ok (.string (bstr [x, y])) W := by
  have := run_convert_bytes_arg (P := Tryd.prog) W 45 5 Tryd.underlying45 Tryd.underlying5 g 0 2 2 [(x.toNat : Int), (y.toNat : Int)] rfl (fun i hi => by
    match i, hi with
    | 0, _ => exact h
    | 1, _ => exact h') 9 Tryd.underlying9
  rw [this, show ([(x.toNat : Int), (y.toNat : Int)] : List Int) = [x, y].map fun b => (b.toNat : Int) from rfl, strOfNums_bytes]

theorem repeat_zeros (k : Int) (n : Nat) (hk : (n : Int) = k) (hn : n ≤ 3) (w : World) :
    Calls Tryd.prog 47 #[.string ⟨#[48]⟩, .int .i64 k] w fun e w' => e = .returned (.string (bstr (Lib.repeatL [48] n))) ∧ Below w.heap.size w w' := by
  subst hk
  exact Tryd.strings_Repeat ⟨#[48]⟩ n w (by omega) (by simp [ByteArray.size]; omega)

theorem bstr_append (a b : List UInt8) : bstr a ++ bstr b = bstr (a ++ b) := by
  have e : (bstr a ++ bstr b).data = (bstr (a ++ b)).data := by
    rw [ByteArray.data_append]; simp [bstr]
  exact ByteArray.ext e
theorem bstr_data (s : ByteArray) : bstr s.data.toList = s := by simp [bstr]
def Bl (a b : World) : Prop := Below a.heap.size a b
def shSup (i : Nat) : List Nat := [27 + i]
def shMask : List Bool := List.replicate 27 false ++ List.replicate 9 true
def shG (sd : ByteArray) (n : Nat) : Nat → List Value → World → Prop
  | 0, [v], w => ∃ g, v = .slice (some ⟨g, 0, none⟩) 1 1 ∧ w.cell? ⟨g, 0, none⟩ = some (.int .u8 92)
  | 1, [v], _ => v = .string (bstr [92])
  | 2, [v], _ => v = .string sd
  | 3, [v], _ => v = .int .i64 sd.size
  | 4, [v], _ => v = .int .i64 n
  | 5, [v], _ => v = .string (bstr (Lib.repeatL [48] n))
  | 6, [v], _ => v = .string (bstr [92] ++ bstr (Lib.repeatL [48] n))
  | 7, [v], _ => v = .string sd
  | 8, [v], _ => v = .string (bstr [92] ++ bstr (Lib.repeatL [48] n) ++ sd)
  | _, _, _ => False

set_option maxRecDepth 100000 in
set_option maxHeartbeats 2000000 in
theorem shown_any (c : UInt8) (w : World) (hi : ∀ w1, Below w.heap.size w w1 → ¬ (33 ≤ c ∧ c ≤ 126) → Calls Tryd.prog 46 #[.int .i64 c.toNat] w1 fun e w2 => e = .returned (.string ⟨(Lib.decDigits c.toNat).toArray⟩) ∧ Below w1.heap.size w1 w2) :
    Calls Tryd.prog 41 #[.int .u8 c.toNat] w fun e w' => e = .returned (.string (bstr (shownB c))) ∧ Below w.heap.size w w' := by
  have hcl := c.toNat_lt
  have hcl : c.toNat < 256 := hcl
  have hal := (Below.refl w.heap.size w).alloc (Nat.le_refl _) (.cells #[.int .u8 92, .int .u8 c.toNat] 5)
  have hal1 := (Below.refl w.heap.size w).alloc (Nat.le_refl _) (.cells #[.int .u8 c.toNat] 5)
  have hc2 := conv2 (w.alloc (.cells #[.int .u8 92, .int .u8 c.toNat] 5)) w.heap.size 92 c (by rw [World.cell?_alloc_new]; rfl) (by rw [World.cell?_alloc_new]; rfl)
  have hc1 := conv1 (w.alloc (.cells #[.int .u8 c.toNat] 5)) w.heap.size c (by rw [World.cell?_alloc_new]; rfl)
  by_cases h1 : c = 46 ∨ c = 92
  · have hv : shownB c = [92, c] := by unfold shownB; rw [if_pos h1]
    rw [hv]
    by_cases h2 : c.toNat = 46
    · have b1 : ((c.toNat : Int) == 46) = true := by rw [beq_iff_eq]; omega
      clear h2
      go_enter Tryd.func41, Tryd.ntmps41
      go_wp2
      go_ret
      exact ⟨rfl, hal⟩
    · have h3 : c.toNat = 92 := by
        rcases h1 with h | h
        · exact absurd (u8_eq.1 h) h2
        · exact u8_eq.1 h
      have b1 : ((c.toNat : Int) == 46) = false := by rw [beq_eq_false_iff_ne]; omega
      have b2 : ((c.toNat : Int) == 92) = true := by rw [beq_iff_eq]; omega
      clear h2 h3
      go_enter Tryd.func41, Tryd.ntmps41
      go_wp2
      go_ret
      exact ⟨rfl, hal⟩
  · have n1 : c.toNat ≠ 46 := fun h => h1 (.inl (u8_eq.2 h))
    have n2 : c.toNat ≠ 92 := fun h => h1 (.inr (u8_eq.2 h))
    have b1 : ((c.toNat : Int) == 46) = false := by rw [beq_eq_false_iff_ne]; omega
    have b2 : ((c.toNat : Int) == 92) = false := by rw [beq_eq_false_iff_ne]; omega
    by_cases h2 : 33 ≤ c ∧ c ≤ 126
    · have hv : shownB c = [c] := by unfold shownB; rw [if_neg h1, if_pos h2]
      rw [hv]
      obtain ⟨h3, h4⟩ := h2
      rw [u8_le] at h3 h4
      have h3 : 33 ≤ c.toNat := h3
      have h4 : c.toNat ≤ 126 := h4
      have b3 : decide ((33 : Int) ≤ (c.toNat : Int)) = true := decide_eq_true (by omega)
      have b4 : decide ((c.toNat : Int) ≤ 126) = true := decide_eq_true (by omega)
      clear h1 n1 n2 h3 h4
      go_enter Tryd.func41, Tryd.ntmps41
      go_wp2
      go_ret
      exact ⟨rfl, hal1⟩
    · have hv : shownB c = 92 :: digits3 c := by unfold shownB; rw [if_neg h1, if_neg h2]
      rw [hv]
      have hcall := hi w (Below.refl _ _) h2
      obtain ⟨d1, d2, d3⟩ := digits_all ⟨c.toNat, hcl⟩
      simp only [UInt8.ofNat_toNat] at d1 d2 d3
      have h2' : ¬ (33 ≤ c.toNat ∧ c.toNat ≤ 126) := fun h => h2 ⟨u8_le.2 h.1, u8_le.2 h.2⟩
      have w64 : IntKind.i64.wrap (c.toNat : Int) = c.toNat := IntWalk.i64_in _ (by omega)
      generalize Lib.decDigits c.toNat = ds at hcall d1 d2 d3
      have hds : (⟨ds.toArray⟩ : ByteArray).size = ds.length := by simp [ByteArray.size]
      have hdd : (⟨ds.toArray⟩ : ByteArray).data.toList = ds := rfl
      generalize (⟨ds.toArray⟩ : ByteArray) = sd at hcall hds hdd
      subst hdd
      have hD : bstr (92 :: digits3 c) = bstr ([92] ++ Lib.repeatL [48] (3 - sd.size) ++ sd.data.toList) := by
        rw [← d3, hds]; rfl
      rw [hD]
      clear hD d3 hv
      have hn : sd.size = 1 ∨ sd.size = 2 ∨ sd.size = 3 := by omega
      clear d1 d2 hds hi
      have hb34 : (decide ((33 : Int) ≤ (c.toNat : Int)) = true ∧ decide ((c.toNat : Int) ≤ 126) = false) ∨ decide ((33 : Int) ≤ (c.toNat : Int)) = false := by
        by_cases h3 : 33 ≤ c.toNat
        · exact .inl ⟨decide_eq_true (by omega), decide_eq_false (by omega)⟩
        · exact .inr (decide_eq_false (by omega))
      clear h1 n1 n2 h2 h2'
      have hconv : ∀ (W : World) (g : Nat), W.cell? ⟨g, 0, none⟩ = some (.int .u8 92) → (convert 45 9 (.slice (some ⟨g, 0, none⟩) 1 1)).run Tryd.prog W = .ok (.string (bstr [92])) W := fun W g h => conv1 W g 92 h
      obtain ⟨n, hn1, hn2⟩ : ∃ n, 3 - sd.size = n ∧ n ≤ 3 := ⟨_, rfl, by omega⟩
      rw [hn1]
      have hn0 : ((3 : Int) - (sd.size : Int)) = (n : Int) := by omega
      have hwr : IntKind.i64.wrap ((3 : Int) - (sd.size : Int)) = (n : Int) := by rw [hn0]; exact IntWalk.i64_in _ (by omega)
      clear hn hn1
      have hz1 : (bstr [92]).size = 1 := rfl
      have hz2 : (bstr (Lib.repeatL [48] n)).size = n := by rw [bstr_size, Lib.repeatL_length]; simp
      have hz3 : (bstr [92] ++ bstr (Lib.repeatL [48] n)).size = 1 + n := by rw [bstr_append, bstr_size, List.length_append, Lib.repeatL_length]; simp
      rcases hb34 with ⟨b3, b4⟩ | b3
      all_goals
        go_enter Tryd.func41, Tryd.ntmps41
        go_wp2_with fail
        refine hcall.mono ?_
        rintro e w2 ⟨rfl, hb2⟩
        clear hcall hal hal1 hc1 hc2
        go_wp2
        refine wp_region_steps 9 shSup shMask (by kernel_rfl) _ (by kernel_rfl) (by kernel_rfl) (by kernel_rfl) (fun _ => false) (by kernel_rfl) (by kernel_rfl) Bl (shG sd n) [] (fun _ _ _ h1 h2 => h1.trans (h2.mono h1.size)) ?_ (fun _ _ h => h.size) _ (Below.refl _ _) ?_ ?_
        · intro i l w w' hi hR hg
          match i, l, hg with
          | 0, [v], ⟨g, h1, h2⟩ => exact ⟨g, h1, pw_cell_below hR h2⟩
          | 1, [v], hg => exact hg
          | 2, [v], hg => exact hg
          | 3, [v], hg => exact hg
          | 4, [v], hg => exact hg
          | 5, [v], hg => exact hg
          | 6, [v], hg => exact hg
          | 7, [v], hg => exact hg
          | 8, [v], hg => exact hg
        · refine ⟨?_, ?_, ?_, ?_, ?_, ?_, ?_, ?_, ?_, trivial⟩
          all_goals intro σ w' hR hd
          all_goals simp only [shMask, List.replicate, List.cons_append, List.nil_append, fill, Nat.reduceAdd, if_true, Bool.false_eq_true, if_false]
          · go_wp2
            exact ⟨below_alloc (Below.refl _ _) _, _, rfl, by rw [World.cell?_alloc_new]; rfl⟩
          · obtain ⟨g, h1, h2⟩ : ∃ g, σ 27 = _ ∧ _ := hd 0 (by decide) (by decide)
            rw [h1]
            have hcv := hconv w' g h2
            go_wp2
            exact ⟨Below.refl _ _, rfl⟩
          · go_wp2
            exact ⟨Below.refl _ _, rfl⟩
          · obtain h1 : σ 29 = .string sd := hd 2 (by decide) (by decide)
            rw [h1]
            go_wp2
            exact ⟨Below.refl _ _, rfl⟩
          · obtain h1 : σ 30 = .int .i64 sd.size := hd 3 (by decide) (by decide)
            rw [h1]
            go_wp2
            exact ⟨Below.refl _ _, rfl⟩
          · obtain h1 : σ 31 = .int .i64 n := hd 4 (by decide) (by decide)
            rw [h1]
            go_wp2_with fail
            refine (repeat_zeros _ n rfl hn2 _).mono ?_
            rintro e w3 ⟨rfl, hb3⟩
            go_wp2
            exact ⟨hb3, rfl⟩
          · obtain h1 : σ 28 = .string (bstr [92]) := hd 1 (by decide) (by decide)
            obtain h2 : σ 32 = .string (bstr (Lib.repeatL [48] n)) := hd 5 (by decide) (by decide)
            rw [h1, h2]
            go_wp2
            exact ⟨Below.refl _ _, rfl⟩
          · go_wp2
            exact ⟨Below.refl _ _, rfl⟩
          · obtain h1 : σ 33 = .string (bstr [92] ++ bstr (Lib.repeatL [48] n)) := hd 6 (by decide) (by decide)
            obtain h2 : σ 34 = .string sd := hd 7 (by decide) (by decide)
            rw [h1, h2]
            go_wp2
            exact ⟨Below.refl _ _, rfl⟩
        · intro σ w3 hR hG _
          have h1 : σ 35 = .string (bstr [92] ++ bstr (Lib.repeatL [48] n) ++ sd) := hG 8 (by decide)
          simp only [shMask, List.replicate, List.cons_append, List.nil_append, fill, Nat.reduceAdd, if_true, Bool.false_eq_true, if_false, h1]
          have hE : bstr [92] ++ bstr (Lib.repeatL [48] n) ++ sd = bstr ([92] ++ Lib.repeatL [48] n ++ sd.data.toList) := by
            rw [← bstr_append, ← bstr_append, bstr_data]
          rw [hE]
          go_wp2
          go_ret
          exact ⟨rfl, (below_drew hb2).trans (hR.mono hb2.size)⟩
end Go.Proofs.YthkpanggjbckkaaDoor.PN
