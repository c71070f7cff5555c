import Derived.Test.YthkpanggjbckkaaDoorBu
namespace Go.Proofs.YthkpanggjbckkaaDoor.PN
open Go.RowKit Go.Shelf Go.Proofs.YthkpanggjbckkaaDoorW.PrintWords Go.Proofs.YthkpanggjbckkaaDoorW.PrintLast Go.Proofs.YthkpanggjbckkaaDoorW.PrintMore

def okLabel (s : ByteArray) : Bool := decide (1 ≤ s.size) && decide (s.size ≤ 63)
def joinOk (l : List ByteArray) : Bool := l.all okLabel
def labelBytes (s : ByteArray) : List UInt8 := UInt8.ofNat s.size :: foldL s.data.toList
def joinB (l : List ByteArray) : List UInt8 := l.flatMap labelBytes
def joinF (l : List ByteArray) : ByteArray × Int :=
  if joinOk l then (if (joinB l ++ [0]).length ≤ 255 then (bstr (joinB l ++ [0]), 0) else (⟨#[]⟩, 3)) else (⟨#[]⟩, 2)
def name_Join.f (l0 : List ByteArray) : Option (ByteArray × Int) := if l0.length ≤ 68719476736 then some (joinF l0) else none

theorem joinB_len (l : List ByteArray) (h : joinOk l = true) : (joinB l).length ≤ 64 * l.length := by
  induction l with
  | nil => simp [joinB]
  | cons s l ih =>
    simp [joinOk, okLabel] at h
    have := ih (by simpa [joinOk, okLabel] using h.2)
    have e : joinB (s :: l) = labelBytes s ++ joinB l := by simp [joinB]
    have e2 : (labelBytes s).length = s.size + 1 := by simp [labelBytes, foldL]
    rw [e, List.length_append, e2, List.length_cons]
    omega
theorem joinOk_take {l : List ByteArray} (k : Nat) (h : k < l.length) : joinOk (l.take (k + 1)) = (joinOk (l.take k) && okLabel l[k]) := by
  unfold joinOk
  rw [List.take_succ_eq_append_getElem h, List.all_append]
  simp
theorem joinB_take {l : List ByteArray} (k : Nat) (h : k < l.length) : joinB (l.take (k + 1)) = joinB (l.take k) ++ labelBytes l[k] := by
  unfold joinB
  rw [List.take_succ_eq_append_getElem h, List.flatMap_append]
  simp
theorem joinOk_bad {l : List ByteArray} (k : Nat) (h : k < l.length) (hk : okLabel l[k] = false) : joinOk l = false := by
  simp only [joinOk, List.all_eq_false]
  exact ⟨l[k], List.getElem_mem h, by simp [hk]⟩

theorem builder_below {T e B b : Nat} {p : Value} {bs : List Value} {w w' : World} (h : Lib.BuilderAt T e B b p bs w) (hb : Below w.heap.size w w') : Lib.BuilderAt T e B b p bs w' := by
  have hlt := h.lt
  obtain ⟨hB, v, hv, ho, hne⟩ := h
  exact ⟨hB, v, (hb.block _ hlt).trans hv, pw_own_below ho hb, hne⟩
theorem joinB_cells {l : List ByteArray} {k : Nat} {s : ByteArray} (h : k < l.length) (hs : l[k] = s) (h2 : s.size ≤ 63) :
    (Lib.byteCells (joinB (l.take k)) ++ [Value.int .u8 s.size]) ++ Lib.strCells (bstr (foldL s.data.toList)) = Lib.byteCells (joinB (l.take (k + 1))) := by
  rw [joinB_take k h, Lib.byteCells_append, hs, labelBytes, List.append_assoc, Lib.strCells_eq]
  have e : (UInt8.ofNat s.size).toNat = s.size := by
    rw [UInt8.toNat_ofNat']; omega
  simp [Lib.byteCells, bstr, e]
theorem bstr_size (l : List UInt8) : (bstr l).size = l.length := by simp [bstr, ByteArray.size]

set_option maxRecDepth 100000 in
set_option maxHeartbeats 4000000 in
theorem name_Join.calls (A0 : Option Addr) (c0 : Nat) (l0 : List ByteArray) (r1 : ByteArray) (r2 : Int) (w : World) (hr0 : Kd.C Kd.string w A0 l0.length l0) (hc0 : l0.length ≤ c0) (h : name_Join.f l0 = some (r1, r2)) :
    Calls Tryd.prog 16 #[.slice A0 l0.length c0] w fun e w' => e = .returned (.tuple #[.string r1, .int .i64 r2]) ∧ Below w.heap.size w w' := by
  have hs : l0.length ≤ 68719476736 := by
    unfold name_Join.f at h
    split at h
    · assumption
    · cases h
  have hF : joinF l0 = (r1, r2) := by
    unfold name_Join.f at h
    rw [if_pos hs] at h
    exact Option.some.inj h
  clear h
  have hFh := hid hF
  clear hF
  go_enter Tryd.func16, Tryd.ntmps16
  go_wp2
  have hR := hid (Kd.reads_of_C (d := (⟨#[]⟩ : ByteArray)) hr0)
  obtain ⟨w1, hw1⟩ : ∃ w1, w.alloc (.cells #[.pointer none, .slice none 0 0] 52) = w1 := ⟨_, rfl⟩
  have hb1 : Lib.IsBuilder 52 5 w.heap.size w.heap.size [] w1 := by rw [← hw1]; exact Lib.fresh_isBuilder 52 5 w
  have hB1 : Below w.heap.size w w1 := by rw [← hw1]; exact (Below.refl _ w).alloc (Nat.le_refl _) _
  rw [hw1]
  go_loopw [9] (fun i wr => ∃ k : Nat, i = .int .i64 k ∧ k ≤ l0.length ∧ joinOk (l0.take k) = true ∧ Lib.IsBuilder 52 5 w.heap.size w.heap.size (Lib.byteCells (joinB (l0.take k))) wr ∧ Below w.heap.size w wr) (fun i _ => l0.length - (intOf i).toNat)
  case atStart => exact ⟨0, rfl, Nat.zero_le _, rfl, hb1, hB1⟩
  case round =>
    obtain ⟨k, rfl, hk, hok, hbu, hB⟩ := hrel
    have hok := hid hok
    have hjl := joinB_len _ hok.out
    have htl : (l0.take k).length ≤ k := List.length_take_le _ _
    have hbl : (Lib.byteCells (joinB (l0.take k))).length = (joinB (l0.take k)).length := Lib.byteCells_length _
    have hsz := hB.size
    by_cases hlt : k < l0.length
    · obtain ⟨hn, -, hc⟩ := hR.out
      obtain ⟨ad, hA, hcs⟩ := hc (by omega)
      subst hA
      have hck := pw_cell_below hB (hcs k hlt)
      clear hcs hc hn
      have hx : l0.getD k (⟨#[]⟩ : ByteArray) = l0[k] := by simp [List.getD_eq_getElem?_getD, List.getElem?_eq_getElem hlt]
      rw [hx] at hck
      clear hx
      generalize hs' : l0[k] = s at hck
      have hs' := hid hs'
      by_cases e1 : 1 ≤ s.size
      · by_cases e2 : s.size ≤ 63
        · have b1 : s.toList.isEmpty = false := bnonempty (by omega)
          have b2 : decide ((63 : Int) < (s.size : Int)) = false := decide_eq_false (by omega)
          go_wp2_with fail
          refine (writeByte_any _ _ _ _ _ hbu (by rw [hbl]; omega) (by omega)).mono ?_
          rintro e w2 ⟨rfl, hb2, hB2, -⟩
          have hsz2 := hB2.size
          go_wp2_with fail
          refine (name_Fold.calls s (bstr (foldL s.data.toList)) _ (by unfold name_Fold.f; rw [if_pos (by omega)])).mono ?_
          rintro e w3 ⟨rfl, hB3⟩
          have hsz3 := hB3.size
          have hb3 := builder_below hb2 hB3
          go_wp2_with fail
          refine (writeString_any _ _ _ _ _ (.inr hb3) (by rw [List.length_append, hbl, bstr_size]; simp [foldL]; omega) (by omega)).mono ?_
          rintro e w4 ⟨rfl, hb4, hB4, -⟩
          go_wp2
          go_roundw
          case rel =>
            refine ⟨k + 1, by go_num, by omega, ?_, ?_, ?_⟩
            · rw [joinOk_take k hlt, hok.out, hs'.out]
              simp [okLabel]; omega
            · rw [← joinB_cells hlt hs'.out e2]
              exact .inr hb4
            · exact ((hB.trans hB2).trans (hB3.mono (by omega))).trans hB4
          case measure => simp [intOf]; omega
        · have b1 : s.toList.isEmpty = false := bnonempty (by omega)
          have b2 : decide ((63 : Int) < (s.size : Int)) = true := decide_eq_true (by omega)
          have hf := hFh.out
          unfold joinF at hf
          rw [joinOk_bad k hlt (by rw [hs'.out]; simp [okLabel]; omega)] at hf
          simp only [Bool.false_eq_true, if_false, Prod.mk.injEq] at hf
          obtain ⟨rfl, rfl⟩ := hf
          go_wp2
          go_ret2
          exact ⟨rfl, hB⟩
      · have b1 : s.toList.isEmpty = true := bempty (by omega)
        have hf := hFh.out
        unfold joinF at hf
        rw [joinOk_bad k hlt (by rw [hs'.out]; simp [okLabel]; omega)] at hf
        simp only [Bool.false_eq_true, if_false, Prod.mk.injEq] at hf
        obtain ⟨rfl, rfl⟩ := hf
        go_wp2
        go_ret2
        exact ⟨rfl, hB⟩
    · obtain rfl : k = l0.length := by omega
      have hf := hFh.out
      rw [List.take_length] at hok hbu hbl hjl
      unfold joinF at hf
      rw [hok.out] at hf
      simp only [if_true] at hf
      go_wp2_with fail
      refine (writeString_any _ _ _ _ _ hbu (by rw [hbl]; simp [ByteArray.size]; omega) (by omega)).mono ?_
      rintro e w2 ⟨rfl, hb2, hB2, -⟩
      have hsz2 := hB2.size
      have hcells : Lib.byteCells (joinB l0) ++ Lib.strCells ⟨#[0]⟩ = Lib.byteCells (joinB l0 ++ [0]) := by rw [Lib.byteCells_append]; rfl
      rw [hcells] at hb2
      go_wp2_with fail
      refine (Tryd.Builder_Len _ _ _ _ (.inr hb2)).mono ?_
      rintro e w3 ⟨rfl, rfl⟩
      rw [Lib.byteCells_length]
      by_cases e3 : (joinB l0 ++ [0]).length ≤ 255
      · rw [if_pos e3] at hf
        obtain ⟨m, hm⟩ : ∃ m, (joinB l0 ++ [0]).length = m := ⟨_, rfl⟩
        rw [hm] at e3 ⊢
        clear hm
        have b3 : decide ((255 : Int) < (m : Int)) = false := decide_eq_false (by omega)
        simp only [Prod.mk.injEq] at hf
        obtain ⟨rfl, rfl⟩ := hf
        go_wp2_with fail
        refine (Tryd.Builder_String_any _ _ _ _ (.inr hb2) (by omega)).mono ?_
        rintro e w4 ⟨rfl, hB4⟩
        go_wp2
        go_ret2
        exact ⟨rfl, (hB.trans hB2).trans hB4⟩
      · rw [if_neg e3] at hf
        obtain ⟨m, hm⟩ : ∃ m, (joinB l0 ++ [0]).length = m := ⟨_, rfl⟩
        rw [hm] at e3 ⊢
        clear hm
        have b3 : decide ((255 : Int) < (m : Int)) = true := decide_eq_true (by omega)
        simp only [Prod.mk.injEq] at hf
        obtain ⟨rfl, rfl⟩ := hf
        go_wp2
        go_ret2
        exact ⟨rfl, hB.trans hB2⟩
end Go.Proofs.YthkpanggjbckkaaDoor.PN
