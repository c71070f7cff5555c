import Derived.Test.YthkpanggjbckkaaDoorQT
import Derived.Test.YthkpanggjbckkaaDoorGS
import Derived.Test.YthkpanggjbckkaaDoorPNy
namespace Go.Proofs.YthkpanggjbckkaaDoor.PN
open Go.RowKit Go.Shelf Go.Proofs.YthkpanggjbckkaaDoorW.PrintWords Go.Proofs.YthkpanggjbckkaaDoorW.PrintLast Go.Proofs.YthkpanggjbckkaaDoorW.PrintMore

def derrickref02_Join.f (l0 : List ByteArray) : Option (ByteArray × Int) := if l0.length ≤ 68719476736 then some (joinF l0) else none

theorem low_f (c : UInt8) : derrickref02_low.f (c.toNat : Int) = some ((lowU c).toNat : Int) := by
  have := c.toNat_lt
  have h := lowU_nat c
  unfold derrickref02_low.f
  split
  · split
    · rw [h, if_pos (by omega)]; congr 1; omega
    · rw [h, if_neg (by omega)]
  · rw [h, if_neg (by omega)]
theorem bt_get (s : ByteArray) (i : Nat) (h : i < s.data.toList.length) : bt s (i : Int) = ((s.data.toList[i]).toNat : Int) := by
  have h2 : i < s.size := by rw [data_length] at h; exact h
  rw [← bt_at s (i : Int) (by simpa using h2)]
  rfl
theorem rfold_l0 (s : ByteArray) (hs : s.size < 140737488355328) : ∀ (d i k : Nat), i + d = s.size → d < k →
    derrickref02_Fold.l0 k s ((foldL (s.data.toList.take i)).map fun b => (b.toNat : Int)) i = some (bstr (foldL s.data.toList)) := by
  have hdl := data_length s
  intro d
  induction d with
  | zero =>
    intro i k hi hk
    obtain ⟨k, rfl⟩ : ∃ j, k = j + 1 := ⟨k - 1, by omega⟩
    rw [derrickref02_Fold.l0, if_neg (by omega), List.take_of_length_le (by omega), strOfNums_bytes]
  | succ d ih =>
    intro i k hi hk
    obtain ⟨k, rfl⟩ : ∃ j, k = j + 1 := ⟨k - 1, by omega⟩
    have h2 := ih (i + 1) k (by omega) (by omega)
    have e2 : wrap64 ((i : Int) + 1) = ((i + 1 : Nat) : Int) := by unfold wrap64; omega
    rw [derrickref02_Fold.l0, if_pos (by omega), if_pos (by omega), bt_get s i (by omega), low_f]
    simp only [Option.bind_some]
    rw [if_pos (by simp [foldL]; omega), e2]
    rw [List.take_succ_eq_append_getElem (by omega)] at h2
    simpa [foldL] using h2
theorem rfold_f {s : ByteArray} (hs : s.size < 140737488355328) {k : Nat} (hk : s.size < k) : derrickref02_Fold.f k s = some (bstr (foldL s.data.toList)) := by
  have h := rfold_l0 s hs s.size 0 k (by omega) hk
  exact h

theorem wrap_succ {i n : Nat} (h : i < n) (hn : n ≤ 68719476736) : wrap64 ((i : Int) + 1) = ((i + 1 : Nat) : Int) := by unfold wrap64; omega
def jSup (i : Nat) : List Nat := [26 + i]
def jMask : List Bool := List.replicate 26 false ++ List.replicate 16 true ++ List.replicate 5 false
def jG (s0 t : ByteArray) (ad : Addr) (n c i : Nat) : Nat → List Value → World → Prop
  | 0, [v], _ => v = .string s0
  | 1, [v], _ => v = .slice (some ad) n c
  | 2, [v], _ => v = .int .i64 (i : Int)
  | 3, [v], _ => v = .pointer (some (ad.add i))
  | 4, [v], _ => v = .string t
  | 5, [v], _ => v = .int .i64 (t.size : Int)
  | 6, [v], _ => v = .int .u8 (t.size : Int)
  | 7, [v], w => ∃ g, v = .slice (some ⟨g, 0, none⟩) 1 1 ∧ w.cell? ⟨g, 0, none⟩ = some (.int .u8 (t.size : Int))
  | 8, [v], _ => v = .string (bstr [UInt8.ofNat t.size])
  | 9, [v], _ => v = .string (s0 ++ bstr [UInt8.ofNat t.size])
  | 10, [v], _ => v = .slice (some ad) n c
  | 11, [v], _ => v = .int .i64 (i : Int)
  | 12, [v], _ => v = .pointer (some (ad.add i))
  | 13, [v], _ => v = .string t
  | 14, [v], _ => v = .string (bstr (foldL t.data.toList))
  | 15, [v], _ => v = .string (s0 ++ bstr [UInt8.ofNat t.size] ++ bstr (foldL t.data.toList))
  | _, _, _ => False
theorem jG_keep {s0 t ad n c i} : ∀ (j : Nat) (l : List Value) (w w' : World), Bl w w' → jG s0 t ad n c i j l w → jG s0 t ad n c i j l w' := by
  intro j l w w' hR hg
  unfold jG at hg ⊢
  split at hg
  case h_8 => obtain ⟨g, h1, h2⟩ := hg; exact ⟨g, h1, pw_cell_below hR h2⟩
  all_goals exact hg

set_option maxRecDepth 100000 in
set_option maxHeartbeats 4000000 in
theorem derrickref02_Join.calls (A0 : Option Addr) (c0 : Nat) (l0 : List ByteArray) (r1 : ByteArray) (r2 : Int) (w : World) (hr0 : Kd.C Kd.string w A0 l0.length l0) (hc0 : l0.length ≤ c0) (h : derrickref02_Join.f l0 = some (r1, r2)) :
    Calls Tryd.prog 17 #[.slice A0 l0.length c0] w fun e w' => e = .returned (.tuple #[.string r1, .int .i64 r2]) ∧ Below w.heap.size w w' := by
  have hs : l0.length ≤ 68719476736 := by
    unfold derrickref02_Join.f at h
    split at h
    · assumption
    · cases h
  have hF : joinF l0 = (r1, r2) := by
    unfold derrickref02_Join.f at h
    rw [if_pos hs] at h
    exact Option.some.inj h
  clear h
  have HR0 := Aside0.mk hr0
  have HC0 := Aside0.mk hc0
  clear hr0 hc0
  have HB := Aside0.mk (Below.refl w.heap.size w)
  obtain ⟨K, hK⟩ : ∃ K, K = l0.length := ⟨_, rfl⟩
  have hF := Aside0.mk hF
  go_enter Tryd.func17, Tryd.ntmps17
  go_wp2
  go_loopg [4, 5] K (fun kq v4 v5 w' => ∃ (i : Nat), v4 = .string (bstr (joinB (l0.take i))) ∧ v5 = .int .i64 (i : Int) ∧ Aside0 (i + kq = l0.length) ∧ Aside0 (joinOk (l0.take i) = true) ∧ Aside0 (Below w.heap.size w w'))
  case atStart => exact ⟨0, rfl, rfl, ⟨by omega⟩, ⟨rfl⟩, ⟨Below.refl _ _⟩⟩
  case round =>
    obtain ⟨i, rfl, rfl, HI, HJ, HB⟩ := hrel
    rcases Nat.lt_or_ge i l0.length with hlt | hge
    · have c2b0 : decide ((i : Int) < (l0.length : Int)) = true := decide_eq_true (by omega)
      have p125 : 0 ≤ ((i : Nat) : Int) := by omega
      have q125 : ((i : Nat) : Int) < (l0.length : Int) := by omega
      obtain ⟨ad125, e125, hx125_0⟩ := Kd.at_string HR0.out (i : Int) p125 q125
      have hw125 := hx125_0
      cases e125
      have hrd : rdOf ByteArray.empty l0 (i : Int) = l0[i] := by simp [rdOf, List.getD_eq_getElem?_getD, hlt]
      rw [hrd, Int.toNat_natCast] at hx125_0 hw125
      replace hx125_0 := (HB.out.cell (World.block_lt_of_cell? w _ hx125_0)).trans hx125_0
      replace p125 := eq_true p125
      replace q125 := eq_true q125
      have hokt := joinOk_take i hlt
      obtain ⟨t, ht⟩ : ∃ t, l0[i] = t := ⟨_, rfl⟩
      rw [ht] at hx125_0 hw125 hokt
      by_cases h1 : t.size < 1
      · have hbad := joinOk_bad i hlt (by rw [ht, okLabel, decide_eq_false (by omega)]; rfl)
        have hres : r1 = ⟨#[]⟩ ∧ r2 = 2 := by
          have := hF.out
          rw [join_eq, hbad, if_neg (fun h => by cases h.1)] at this
          exact ⟨(congrArg Prod.fst this).symm, (congrArg Prod.snd this).symm⟩
        obtain ⟨rfl, rfl⟩ := hres
        clear hF hokt
        have c4b0 : decide ((t.size : Int) < 1) = true := decide_eq_true (by omega)
        have c4b1 : decide (t.size < 1) = true := decide_eq_true (by omega)
        go_wp2
        go_ret2
        exact ⟨rfl, HB.out⟩
      · by_cases h2 : 63 < t.size
        · have hbad := joinOk_bad i hlt (by rw [ht, okLabel, decide_eq_false (show ¬ t.size ≤ 63 by omega), Bool.and_false])
          have hres : r1 = ⟨#[]⟩ ∧ r2 = 2 := by
            have := hF.out
            rw [join_eq, hbad, if_neg (fun h => by cases h.1)] at this
            exact ⟨(congrArg Prod.fst this).symm, (congrArg Prod.snd this).symm⟩
          obtain ⟨rfl, rfl⟩ := hres
          clear hF hokt
          have c4b0 : decide ((t.size : Int) < 1) = false := decide_eq_false (by omega)
          have c4b1 : decide (t.size < 1) = false := decide_eq_false (by omega)
          have c5b0 : decide (63 < (t.size : Int)) = true := decide_eq_true (by omega)
          have c5b1 : decide (63 < t.size) = true := decide_eq_true (by omega)
          go_wp2
          go_ret2
          exact ⟨rfl, HB.out⟩
        · skip
          have c4b0 : decide ((t.size : Int) < 1) = false := decide_eq_false (by omega)
          have c4b1 : decide (t.size < 1) = false := decide_eq_false (by omega)
          have c5b0 : decide (63 < (t.size : Int)) = false := decide_eq_false (by omega)
          have c5b1 : decide (63 < t.size) = false := decide_eq_false (by omega)
          go_wp2
          obtain ⟨k, rfl⟩ : ∃ k, gk = k + 1 := ⟨gk - 1, by have := HI.out; omega⟩
          have hI2 : i + 1 + k = l0.length := by have := HI.out; omega
          have e2 : wrap64 ((i : Int) + 1) = ((i + 1 : Nat) : Int) := wrap_succ hlt hs
          have e2 := Aside0.mk e2
          have hlen := joinB_len (l0.take i) HJ.out
          rw [List.length_take] at hlen
          have hjt := joinB_take i hlt
          rw [ht] at hjt
          obtain ⟨s0, hs0⟩ : ∃ s0, bstr (joinB (l0.take i)) = s0 := ⟨_, rfl⟩
          have hz0 : s0.size ≤ 4398046511104 := by rw [← hs0, bstr_size]; omega
          have hz1 : (bstr [UInt8.ofNat t.size]).size = 1 := rfl
          have hz2 : (s0 ++ bstr [UInt8.ofNat t.size]).size = s0.size + 1 := by simp [hz1]
          have hz3 : (bstr (foldL t.data.toList)).size = t.size := fold_size t
          have hq1 : (9223372036854775807 < s0.size + 1) = False := eq_false (by omega)
          have hq2 : (9223372036854775807 < s0.size + 1 + t.size) = False := eq_false (by omega)
          have hd1 : (t.size : Int) % 256 = t.size := by omega
          have hd2 : IntKind.u8.wrap (t.size : Int) = t.size := by rw [IntKind.wrap_u8]; exact hd1
          have hu : ((UInt8.ofNat t.size).toNat : Int) = (t.size : Int) := by rw [UInt8.toNat_ofNat']; omega
          have hfin : s0 ++ bstr [UInt8.ofNat t.size] ++ bstr (foldL t.data.toList) = bstr (joinB (l0.take (i + 1))) := by
            rw [← hs0, bstr_append, bstr_append, hjt, labelBytes, List.append_assoc]; rfl
          have hfinA := Aside0.mk hfin
          clear hfin hjt
          have hokn : joinOk (l0.take (i + 1)) = true := by
            rw [hokt, HJ.out, Bool.true_and]
            exact ok_iff.2 ⟨by omega, by omega⟩
          have hcell : wr.drew.cell? (ad125.add i) = some (.string t) := hx125_0
          rw [hs0]
          refine wp_region_steps 16 jSup jMask (by kernel_rfl) _ (by kernel_rfl) (by kernel_rfl) (by kernel_rfl) (fun _ => false) (by kernel_rfl) (by kernel_rfl) Bl (jG s0 t ad125 l0.length c0 i) [] (fun _ _ _ h1 h2 => h1.trans (h2.mono h1.size)) (fun j l w w' _ hR hg => jG_keep j l w w' hR hg) (fun _ _ h => h.size) _ (Below.refl _ _) ?_ ?_
          · refine ⟨?_, ?_, ?_, ?_, ?_, ?_, ?_, ?_, ?_, ?_, ?_, ?_, ?_, ?_, ?_, ?_, trivial⟩
            all_goals intro σ w' hR hd
            all_goals simp only [jMask, List.replicate, List.cons_append, List.nil_append, fill, Nat.reduceAdd, if_true, Bool.false_eq_true, if_false]
            · go_wp2
              exact ⟨Below.refl _ _, rfl⟩
            · go_wp2
              exact ⟨Below.refl _ _, rfl⟩
            · go_wp2
              exact ⟨Below.refl _ _, rfl⟩
            · obtain h1 : σ 27 = .slice (some ad125) l0.length c0 := hd 1 (by decide) (by decide)
              obtain h2 : σ 28 = .int .i64 (i : Int) := hd 2 (by decide) (by decide)
              rw [h1, h2]
              go_wp2
              exact ⟨Below.refl _ _, rfl⟩
            · obtain h1 : σ 29 = .pointer (some (ad125.add i)) := hd 3 (by decide) (by decide)
              rw [h1]
              have hc2 := pw_cell_below hR hcell
              go_wp2
              exact ⟨Below.refl _ _, rfl⟩
            · obtain h1 : σ 30 = .string t := hd 4 (by decide) (by decide)
              rw [h1]
              go_wp2
              exact ⟨Below.refl _ _, rfl⟩
            · obtain h1 : σ 31 = .int .i64 (t.size : Int) := hd 5 (by decide) (by decide)
              rw [h1]
              go_wp2
              exact ⟨Below.refl _ _, by first | rfl | (simp [jG, hd1, hd2])⟩
            · obtain h1 : σ 32 = .int .u8 (t.size : Int) := hd 6 (by decide) (by decide)
              rw [h1]
              go_wp2
              exact ⟨below_alloc (Below.refl _ _) _, _, rfl, by rw [World.cell?_alloc_new]; rfl⟩
            · obtain ⟨g, h1, h2⟩ : ∃ g, σ 33 = _ ∧ _ := hd 7 (by decide) (by decide)
              rw [h1]
              have hcv := conv1 w' g (UInt8.ofNat t.size) (by rw [hu]; exact h2)
              go_wp2
              exact ⟨Below.refl _ _, rfl⟩
            · obtain h1 : σ 26 = .string s0 := hd 0 (by decide) (by decide)
              obtain h2 : σ 34 = .string (bstr [UInt8.ofNat t.size]) := hd 8 (by decide) (by decide)
              rw [h1, h2]
              go_wp2
              exact ⟨Below.refl _ _, rfl⟩
            · go_wp2
              exact ⟨Below.refl _ _, rfl⟩
            · go_wp2
              exact ⟨Below.refl _ _, rfl⟩
            · obtain h1 : σ 36 = .slice (some ad125) l0.length c0 := hd 10 (by decide) (by decide)
              obtain h2 : σ 37 = .int .i64 (i : Int) := hd 11 (by decide) (by decide)
              rw [h1, h2]
              go_wp2
              exact ⟨Below.refl _ _, rfl⟩
            · obtain h1 : σ 38 = .pointer (some (ad125.add i)) := hd 12 (by decide) (by decide)
              rw [h1]
              have hc2 := pw_cell_below hR hcell
              go_wp2
              exact ⟨Below.refl _ _, rfl⟩
            · obtain h1 : σ 39 = .string t := hd 13 (by decide) (by decide)
              rw [h1]
              go_wp2_with fail
              refine (derrickref02_Fold.calls (t.size + 1) t _ _ (rfold_f (by omega) (Nat.lt_succ_self _))).mono ?_
              rintro e w3 ⟨rfl, hb3⟩
              go_wp2
              exact ⟨hb3, rfl⟩
            · obtain h1 : σ 35 = .string (s0 ++ bstr [UInt8.ofNat t.size]) := hd 9 (by decide) (by decide)
              obtain h2 : σ 40 = .string (bstr (foldL t.data.toList)) := hd 14 (by decide) (by decide)
              rw [h1, h2]
              go_wp2
              exact ⟨Below.refl _ _, rfl⟩
          · intro σ w3 hR hG _
            have h1 : σ 41 = .string (s0 ++ bstr [UInt8.ofNat t.size] ++ bstr (foldL t.data.toList)) := hG 15 (by decide)
            have hB2 : Below w.heap.size w w3 := (below_drew1 HB.out).trans (hR.mono HB.out.size)
            rw [hfinA.out] at h1
            have hG' := Aside0.mk hG
            clear hG
            simp only [jMask, List.replicate, List.cons_append, List.nil_append, fill, Nat.reduceAdd, if_true, Bool.false_eq_true, if_false, h1]
            go_wp2
            go_roundg k
            case measure => omega
            case rel =>
              exact ⟨i + 1, rfl, (by first | exact congrArg (Value.int .i64) e2.out | exact congrArg (Value.int .i64) (Int.natCast_succ i).symm), ⟨hI2⟩, ⟨hokn⟩, ⟨hB2⟩⟩
    · have c2b0 : decide ((i : Int) < (l0.length : Int)) = false := decide_eq_false (by omega)
      have hall : l0.take i = l0 := List.take_of_length_le hge
      have hJ := HJ.out
      rw [hall] at hJ ⊢
      clear HJ
      have hlen := joinB_len l0 hJ
      have hz := bstr_size (joinB l0)
      have hwz := wire_size l0
      have hF := hF.out
      rw [join_eq] at hF
      by_cases h5 : (wire l0).size ≤ 255
      · rw [if_pos ⟨hJ, h5⟩] at hF
        obtain ⟨e0, e2⟩ := Prod.mk.inj hF
        have e1 : bstr (joinB l0) ++ ⟨#[0]⟩ = r1 := (bstr_append _ [0]).trans e0
        subst e2
        clear e0 hF hJ hall
        obtain ⟨s0, hs0⟩ : ∃ s0, bstr (joinB l0) = s0 := ⟨_, rfl⟩
        rw [hs0] at e1 hz ⊢
        subst e1
        have c6 : decide (254 < (s0.size : Int)) = false := decide_eq_false (by omega)
        have c6b : decide (254 < s0.size) = false := decide_eq_false (by omega)
        have hq : (9223372036854775807 < s0.size + 1) = False := eq_false (by omega)
        go_wp2
        go_ret2
        exact ⟨rfl, HB.out⟩
      · rw [if_neg (fun h => h5 h.2), if_pos hJ] at hF
        have e1 : r1 = ⟨#[]⟩ := (congrArg Prod.fst hF).symm
        have e2 : r2 = 3 := (congrArg Prod.snd hF).symm
        subst e1 e2
        clear hF hJ hall
        obtain ⟨s0, hs0⟩ : ∃ s0, bstr (joinB l0) = s0 := ⟨_, rfl⟩
        rw [hs0] at hz ⊢
        have c6 : decide (254 < (s0.size : Int)) = true := decide_eq_true (by omega)
        have c6b : decide (254 < s0.size) = true := decide_eq_true (by omega)
        go_wp2
        go_ret2
        exact ⟨rfl, HB.out⟩
end Go.Proofs.YthkpanggjbckkaaDoor.PN
