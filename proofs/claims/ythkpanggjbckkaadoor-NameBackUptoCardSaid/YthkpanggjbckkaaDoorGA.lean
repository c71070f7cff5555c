import Derived.Test.YthkpanggjbckkaaDoorPNx0
import Derived.Lib.ConvBytes
import Derived.Laws.BytesArg
namespace Go.Proofs.YthkpanggjbckkaaDoor.PN
open Go.RowKit Go.Proofs.YthkpanggjbckkaaDoorW.PrintWords Go.Proofs.YthkpanggjbckkaaDoorW.PrintLast Go.Proofs.YthkpanggjbckkaaDoorW.PrintMore

theorem hid {p : Prop} (h : p) : Hid p := h
/-- A byte, a great letter as the small one. -/
def lowU (c : UInt8) : UInt8 := if 65 ≤ c ∧ c ≤ 90 then c + 32 else c
def foldL (s : List UInt8) : List UInt8 := s.map lowU
def bstr (l : List UInt8) : ByteArray := ⟨l.toArray⟩
def name_Fold.f (a0 : ByteArray) : Option ByteArray := if a0.size ≤ 140737488351232 then some (bstr (foldL a0.data.toList)) else none

theorem lowU_nat (c : UInt8) : (lowU c).toNat = if 65 ≤ c.toNat ∧ c.toNat ≤ 90 then c.toNat + 32 else c.toNat := by
  unfold lowU
  have e : (65 ≤ c ∧ c ≤ 90) ↔ (65 ≤ c.toNat ∧ c.toNat ≤ 90) := by rw [UInt8.le_iff_toNat_le, UInt8.le_iff_toNat_le]; rfl
  by_cases h : 65 ≤ c.toNat ∧ c.toNat ≤ 90
  · rw [if_pos (e.2 h), if_pos h, UInt8.toNat_add]
    have : (32 : UInt8).toNat = 32 := rfl
    omega
  · rw [if_neg (fun h' => h (e.1 h')), if_neg h]

theorem strOfNums_bytes (l : List UInt8) : strOfNums (l.map fun b => (b.toNat : Int)) = bstr l := by
  simp only [strOfNums, bstr, List.map_map]
  rw [show ((fun n : Int => UInt8.ofNat n.toNat) ∘ fun b : UInt8 => (b.toNat : Int)) = id from by funext b; simp, List.map_id]

set_option maxRecDepth 100000 in
set_option maxHeartbeats 2000000 in
theorem name_Fold.calls (a0 : ByteArray) (r : ByteArray) (w : World) (h : name_Fold.f a0 = some r) :
    Calls Tryd.prog 11 #[.string a0] w fun e w' => e = .returned (.string r) ∧ Below w.heap.size w w' := by
  obtain ⟨s, rfl⟩ : ∃ s, s = a0 := ⟨_, rfl⟩
  have hs : s.size ≤ 140737488351232 := by
    unfold name_Fold.f at h
    split at h
    · assumption
    · cases h
  obtain rfl : bstr (foldL s.data.toList) = r := by
    unfold name_Fold.f at h
    rw [if_pos hs] at h
    exact Option.some.inj h
  clear h
  have hc := fun w => Go.Lib.run_convert_string_bytes (P := Tryd.prog) w 9 45 5 s Tryd.underlying9 Tryd.underlying45 Tryd.underlying5
  go_enter Tryd.func11, Tryd.ntmps11
  go_wp2
  have hz := Go.Lib.bytesWorld_size w 5 s
  have hcell : ∀ j, j < s.size → (Go.Lib.bytesWorld w 5 s).cell? ⟨w.heap.size, j, none⟩ = some (.int .u8 (s.data.toList.getD j 0).toNat) := fun j hj => Go.Lib.bytesWorld_cell w 5 s j hj
  have hfr0 : ∀ j, j < s.size → (Go.Lib.bytesWorld w 5 s).frozen? ⟨w.heap.size, j, none⟩ = false := by
    intro j hj
    unfold World.frozen?
    rw [Go.Lib.bytesWorld_at_new]
    simp [Go.Lib.bytesCells]
    omega
  have hF0 : Below w.heap.size w (Go.Lib.bytesWorld w 5 s) := ⟨rfl, rfl, rfl, by omega, fun b hb => Go.Lib.bytesWorld_at_old w 5 s b hb⟩
  go_loopw [10] (fun i wr => ∃ k : Nat, i = .int .i64 k ∧ k ≤ s.size ∧ Below w.heap.size w wr ∧ w.heap.size < wr.heap.size ∧
    (∀ j, j < s.size → wr.cell? ⟨w.heap.size, j, none⟩ = some (.int .u8 ((if j < k then lowU (s.data.toList.getD j 0) else s.data.toList.getD j 0).toNat))) ∧ (∀ j, j < s.size → wr.frozen? ⟨w.heap.size, j, none⟩ = false)) (fun i _ => s.size - (intOf i).toNat)
  case atStart =>
    exact ⟨0, rfl, Nat.zero_le _, hF0, by omega, by simpa using hcell, hfr0⟩
  case round =>
    obtain ⟨k, rfl, hk, hF, hY, hcl, hfz⟩ := hrel
    clear hcell hfr0 hF0 hz hc
    by_cases hlt : k < s.size
    · have c0 := hcl k hlt
      have z0 := hfz k hlt
      simp only [Nat.lt_irrefl, if_false] at c0
      generalize hx : s.data.toList.getD k 0 = x at c0
      have hX := hid hx
      clear hx
      have hxl := x.toNat_lt
      have hln := hid (lowU_nat x)
      have hcl' := hid hcl
      have hfz' := hid hfz
      clear hcl hfz
      by_cases h1 : 65 ≤ x.toNat
      · by_cases h2 : x.toNat ≤ 90
        · go_wp2
          have hl : (lowU x).toNat = x.toNat + 32 := by rw [hln.out, if_pos ⟨h1, h2⟩]
          go_roundw
          case rel =>
            refine ⟨k + 1, by go_num, by omega, hF.setCell (p := ⟨w.heap.size, k, none⟩) (Nat.le_refl _) _, by simpa using hY, ?_, ?_⟩
            · intro j hj
              rcases Nat.lt_trichotomy j k with h' | h' | h'
              · rw [World.cell?_setCell_other _ _ _ _ (by intro h''; cases h''; omega), hcl'.out j hj, if_pos h', if_pos (by omega)]
              · subst h'
                rw [World.cell?_setCell_same' _ _ _ (by rw [c0]; rfl), if_pos (by omega), hX.out, hl]
                rfl
              · rw [World.cell?_setCell_other _ _ _ _ (by intro h''; cases h''; omega), hcl'.out j hj, if_neg (by omega), if_neg (by omega)]
            · intro j hj
              rw [World.frozen?_setCell]; exact hfz'.out j hj
          case measure => simp [intOf]; omega
        · go_wp2
          have hl : (lowU x).toNat = x.toNat := by rw [hln.out, if_neg (by omega)]
          go_roundw
          case rel =>
            refine ⟨k + 1, by go_num, by omega, hF, hY, fun j hj => ?_, hfz'.out⟩
            rw [hcl'.out j hj]
            rcases Nat.lt_trichotomy j k with h' | h' | h'
            · rw [if_pos h', if_pos (by omega)]
            · subst h'
              rw [if_neg (by omega), if_pos (by omega), hX.out, hl]
            · rw [if_neg (by omega), if_neg (by omega)]
          case measure => simp [intOf]; omega
      · go_wp2
        have hl : (lowU x).toNat = x.toNat := by rw [hln.out, if_neg (by omega)]
        go_roundw
        case rel =>
          refine ⟨k + 1, by go_num, by omega, hF, hY, fun j hj => ?_, hfz'.out⟩
          rw [hcl'.out j hj]
          rcases Nat.lt_trichotomy j k with h' | h' | h'
          · rw [if_pos h', if_pos (by omega)]
          · subst h'
            rw [if_neg (by omega), if_pos (by omega), hX.out, hl]
          · rw [if_neg (by omega), if_neg (by omega)]
        case measure => simp [intOf]; omega
    · obtain rfl : k = s.size := by omega
      have hkv := run_convert_bytes_arg (P := Tryd.prog) wr 45 5 Tryd.underlying45 Tryd.underlying5 w.heap.size 0 s.size (grownCap w s.size 0 5) ((foldL s.data.toList).map fun b => (b.toNat : Int)) (by simp [foldL]) (fun i hi => by
        rw [Nat.zero_add, hcl i hi, if_pos hi]
        have hl' : i < s.data.toList.length := by simpa using hi
        simp [foldL, List.getD_eq_getElem?_getD, List.getElem?_eq_getElem hl']) 9 Tryd.underlying9
      rw [strOfNums_bytes] at hkv
      clear hcl hfz
      go_wp2
      go_ret
      exact ⟨rfl, hF⟩
end Go.Proofs.YthkpanggjbckkaaDoor.PN
