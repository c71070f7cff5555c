import Derived.Test.YthkpanggjbckkaaDoorQB
import Derived.Test.YthkpanggjbckkaaDoorGX
namespace Go.Proofs.YthkpanggjbckkaaDoor.PN
open Go.RowKit Go.Shelf Go.Proofs.YthkpanggjbckkaaDoorW.PrintWords Go.Proofs.YthkpanggjbckkaaDoorW.PrintLast Go.Proofs.YthkpanggjbckkaaDoorW.PrintMore

theorem shown_len : ∀ m : List UInt8, (m.flatMap shownB).length ≤ 4 * m.length
  | [] => by simp
  | c :: m => by
    rw [List.flatMap_cons, List.length_append, List.length_cons]
    have := shownB_len c
    have := shown_len m
    omega
theorem text_len : ∀ M : List ByteArray, (M.flatMap labT).length ≤ 4 * (joinB M).length
  | [] => by simp
  | a :: M => by
    have e : joinB (a :: M) = labelBytes a ++ joinB M := by simp [joinB]
    have e2 : (labelBytes a).length = a.size + 1 := by simp [labelBytes, foldL]
    have h1 := shown_len a.data.toList
    have h2 := text_len M
    rw [data_length] at h1
    rw [List.flatMap_cons, List.length_append, e, List.length_append, e2, labT, List.length_append, List.length_singleton]
    omega
theorem textF_len {n : ByteArray} (hm : mayB n = true) : (textF n).length ≤ 2000 := by
  by_cases hr : n = rootB
  · subst hr; rw [text_root]; simp
  · rw [text_labs hm hr]
    have h := text_len (labs n)
    have h2 := wire_size (labs n)
    rw [(may_wire n hm).2] at h2
    have := (may_iff.1 hm).2.1
    omega
theorem upU_nat (c : UInt8) : (upU c).toNat = if 97 ≤ c.toNat ∧ c.toNat ≤ 122 then c.toNat - 32 else c.toNat := by
  unfold upU
  have t97 : (97 : UInt8).toNat = 97 := rfl
  have t122 : (122 : UInt8).toNat = 122 := rfl
  have t32 : (32 : UInt8).toNat = 32 := rfl
  by_cases h : 97 ≤ c ∧ c ≤ 122
  · have h1 := u8_le.1 h.1
    have h2 := u8_le.1 h.2
    rw [if_pos h, if_pos ⟨by omega, by omega⟩, UInt8.toNat_sub_of_le _ _ (u8_le.2 (by omega)), t32]
  · rw [if_neg h, if_neg (fun hh => h ⟨u8_le.2 (by omega), u8_le.2 (by omega)⟩)]
set_option maxRecDepth 100000 in
set_option maxHeartbeats 4000000 in
theorem back_no (n : ByteArray) (hz : n.size ≤ 4398046511104) (hm : mayB n = false) (w : World) :
    Calls Tryd.prog 8 #[.string n] w fun e w' => e = .returned (.bool true) ∧ Below w.heap.size w w' := by
  go_enter Tryd.func8, Tryd.ntmps8
  go_wp2_with fail
  refine (derricklaw02_shown.calls true _ shown_f).mono ?_
  rintro e w1 ⟨rfl, hb1⟩
  go_wp2_with fail
  refine (name_May.calls n false _ (by rw [may_f hz, hm])).mono ?_
  rintro e w2 ⟨rfl, hb2⟩
  go_wp2
  go_ret
  exact ⟨rfl, hb1.trans (hb2.mono hb1.size)⟩
set_option maxRecDepth 100000 in
set_option maxHeartbeats 4000000 in
theorem back_yes (n : ByteArray) (hm : mayB n = true) (w : World) (hT : TabW w) :
    Calls Tryd.prog 8 #[.string n] w fun e w' => e = .returned (.bool true) ∧ Below w.heap.size w w' := by
  have hz : n.size ≤ 255 := (may_iff.1 hm).2.1
  obtain ⟨K, hK⟩ : ∃ K, 100000 < K := ⟨_, Nat.lt_succ_self _⟩
  obtain ⟨h0, h1, h2, h3⟩ := back_all hm K hK
  have H1 := Aside0.mk h1
  have H2 := Aside0.mk h2
  have H3 := Aside0.mk h3
  have HT := Aside0.mk hT
  have HM := Aside0.mk hm
  have hm' := hm
  clear h1 h2 h3 hT hm
  obtain ⟨s, hs⟩ : ∃ s, bstr (textF n) = s := ⟨_, rfl⟩
  have hss : 0 < s.size := by rw [← hs, bstr_size]; exact h0
  have hsb : s.size ≤ 2000 := by rw [← hs, bstr_size]; exact textF_len hm'
  have HS := Aside0.mk hs
  clear hs h0
  have hs0 : ((s.size : Int) == 0) = false := by rw [beq_eq_false_iff_ne]; omega
  go_enter Tryd.func8, Tryd.ntmps8
  go_wp2_with fail
  refine (derricklaw02_shown.calls true _ shown_f).mono ?_
  rintro e w1 ⟨rfl, hb1⟩
  have HB := Aside0.mk hb1
  clear hb1
  go_wp2_with fail
  refine (name_May.calls n true _ (by rw [may_f (by omega), HM.out])).mono ?_
  rintro e w2 ⟨rfl, hb⟩
  have HB2 := Aside0.mk (HB.out.trans (hb.mono HB.out.size))
  clear HB hb
  go_wp2_with fail
  refine (name_Labels.calls n (labs n) 0 _ (by unfold name_Labels.f; rw [if_pos (by omega), labels_may HM.out]; rfl)).mono ?_
  rintro e w3 ⟨v, rfl, hR, hb⟩
  have HB3 := Aside0.mk (HB2.out.trans (hb.mono HB2.out.size))
  clear HB2 hb
  obtain ⟨A, c, rfl, hc, hC⟩ := Kd.R_reads hR
  have HR := Aside0.mk hC
  clear hR hC
  go_wp2_with fail
  refine (name_Join.calls A c (labs n) n 0 _ HR.out hc (by
    have hl : (labs n).length ≤ n.size := by unfold labs; rw [List.length_map]; exact eachOf_len n
    unfold name_Join.f; rw [if_pos (by omega), labs_join HM.out])).mono ?_
  rintro e w4 ⟨rfl, hb⟩
  have HB4 := Aside0.mk (HB3.out.trans (hb.mono HB3.out.size))
  clear HB3 hb HR
  go_wp2_with fail
  refine (text_tab n (by omega) _ (HT.out.below HB4.out)).mono ?_
  rintro e w5 ⟨rfl, hb⟩
  have HB5 := Aside0.mk (HB4.out.trans (hb.mono HB4.out.size))
  clear HB4 hb
  rw [HS.out]
  go_wp2_with fail
  refine (name_Take.calls K s n 0 _ (by rw [← HS.out]; exact H1.out)).mono ?_
  rintro e w6 ⟨rfl, hb⟩
  have HB6 := Aside0.mk (HB5.out.trans (hb.mono HB5.out.size))
  clear HB5 hb
  clear hm'
  have hq4 : wrap64 ((s.size - 1 : Nat) : Int) = ((s.size - 1 : Nat) : Int) := wrap_small rfl (by omega) (by omega)
  have hq1 : (s.size : Int) - 1 = ((s.size - 1 : Nat) : Int) := by omega
  have hq2 : ((s.size - 1 : Nat) : Int) ≤ (s.size : Int) := by omega
  have hq3 : (0 : Int) ≤ ((s.size - 1 : Nat) : Int) := by omega
  go_wp2_with fail
  obtain ⟨u, h, hu⟩ : ∃ u h, (if n = rootB then ((⟨#[]⟩ : ByteArray), (2 : Int)) else (n, 0)) = (u, h) := ⟨_, _, rfl⟩
  have HU := Aside0.mk hu
  refine (name_Take.calls K _ u h _ (by
    have e : ∀ m, m = s.size - 1 → s.extract 0 m = bstr (textF n).dropLast := by
      intro m hm
      apply ba_ext
      rw [extract_list, List.drop_zero, bstr_list, ← HS.out, bstr_list, List.dropLast_eq_take, hm, ← HS.out, bstr_size, Nat.sub_zero]
    rw [e _ (by omega), H3.out, hu])).mono ?_
  rintro e w7 ⟨rfl, hb⟩
  have HB7 := Aside0.mk (HB6.out.trans (hb.mono HB6.out.size))
  clear HB6 hb hq1 hq2 hq3 hq4 hu
  have hc := fun w => Go.Lib.run_convert_string_bytes (P := Tryd.prog) w 9 45 5 s Tryd.underlying9 Tryd.underlying45 Tryd.underlying5
  go_wp2
  have hz := Go.Lib.bytesWorld_size w7 5 s
  have hcell : ∀ j, j < s.size → (Go.Lib.bytesWorld w7 5 s).cell? ⟨w7.heap.size, j, none⟩ = some (.int .u8 (s.data.toList.getD j 0).toNat) := fun j hj => Go.Lib.bytesWorld_cell w7 5 s j hj
  have hfr0 : ∀ j, j < s.size → (Go.Lib.bytesWorld w7 5 s).frozen? ⟨w7.heap.size, j, none⟩ = false := by
    intro j hj
    unfold World.frozen?
    rw [Go.Lib.bytesWorld_at_new]
    simp [Go.Lib.bytesCells]
    omega
  have hF0 : Below w7.heap.size w7 (Go.Lib.bytesWorld w7 5 s) := ⟨rfl, rfl, rfl, by omega, fun b hb => Go.Lib.bytesWorld_at_old w7 5 s b hb⟩
  have hsz7 := HB7.out.size
  have hF1 : Below w.heap.size w (Go.Lib.bytesWorld w7 5 s) := HB7.out.trans (hF0.mono hsz7)
  clear hF0
  go_loopw [14] (fun i wr => ∃ k : Nat, i = .int .i64 k ∧ k ≤ s.size ∧ Below w.heap.size w wr ∧ w7.heap.size < wr.heap.size ∧
    (∀ j, j < s.size → wr.cell? ⟨w7.heap.size, j, none⟩ = some (.int .u8 ((if j < k then upU (s.data.toList.getD j 0) else s.data.toList.getD j 0).toNat))) ∧ (∀ j, j < s.size → wr.frozen? ⟨w7.heap.size, j, none⟩ = false)) (fun i _ => s.size - (intOf i).toNat)
  case atStart =>
    exact ⟨0, rfl, Nat.zero_le _, hF1, by omega, by simpa using hcell, hfr0⟩
  case round =>
    obtain ⟨k, rfl, hk, hF, hY, hcl, hfz⟩ := hrel
    clear hcell hfr0 hF1 hz hc
    by_cases hlt : k < s.size
    · have c0 := hcl k hlt
      have z0 := hfz k hlt
      simp only [Nat.lt_irrefl, if_false] at c0
      generalize hx : s.data.toList.getD k 0 = x at c0
      have hX := hid hx
      clear hx
      have hxl := x.toNat_lt
      have hln := hid (upU_nat x)
      have hcl' := hid hcl
      have hfz' := hid hfz
      clear hcl hfz
      have hno : ¬ (97 ≤ x.toNat ∧ x.toNat ≤ 122) → (∀ j, j < s.size → wr.cell? ⟨w7.heap.size, j, none⟩ = some (.int .u8 ((if j < k + 1 then upU (s.data.toList.getD j 0) else s.data.toList.getD j 0).toNat))) := by
        intro hn j hj
        have hl : (upU x).toNat = x.toNat := by rw [hln.out, if_neg hn]
        rw [hcl'.out j hj]
        rcases Nat.lt_trichotomy j k with h' | h' | h'
        · rw [if_pos h', if_pos (by omega)]
        · subst h'
          rw [if_neg (by omega), if_pos (by omega), hX.out, hl]
        · rw [if_neg (by omega), if_neg (by omega)]
      have hno := hid hno
      by_cases h1 : 97 ≤ x.toNat
      · by_cases h2 : x.toNat ≤ 122
        · have hl : (upU x).toNat = x.toNat - 32 := by rw [hln.out, if_pos ⟨h1, h2⟩]
          have hl2 : ((upU x).toNat : Int) = (x.toNat : Int) - 32 := by omega
          have hL := hid hl2
          clear hl hl2
          have hw8 : IntKind.u8.wrap ((x.toNat : Int) - 32) = (x.toNat : Int) - 32 := by rw [IntKind.wrap_u8]; omega
          go_wp2
          go_roundw
          case rel =>
            refine ⟨k + 1, by go_num, by omega, hF.setCell (p := ⟨w7.heap.size, k, none⟩) hsz7 _, by simpa using hY, ?_, ?_⟩
            · intro j hj
              rcases Nat.lt_trichotomy j k with h' | h' | h'
              · rw [World.cell?_setCell_other _ _ _ _ (by intro h''; cases h''; omega), hcl'.out j hj, if_pos h', if_pos (by omega)]
              · subst h'
                rw [World.cell?_setCell_same' _ _ _ (by rw [c0]; rfl), if_pos (by omega), hX.out, hL.out]
              · rw [World.cell?_setCell_other _ _ _ _ (by intro h''; cases h''; omega), hcl'.out j hj, if_neg (by omega), if_neg (by omega)]
            · intro j hj
              rw [World.frozen?_setCell]; exact hfz'.out j hj
          case measure => simp [intOf]; omega
        · go_wp2
          go_roundw
          case rel => exact ⟨k + 1, by go_num, by omega, hF, hY, hno.out (by omega), hfz'.out⟩
          case measure => simp [intOf]; omega
      · go_wp2
        go_roundw
        case rel => exact ⟨k + 1, by go_num, by omega, hF, hY, hno.out (by omega), hfz'.out⟩
        case measure => simp [intOf]; omega
    · obtain rfl : k = s.size := by omega
      have hkv := run_convert_bytes_arg (P := Tryd.prog) wr 45 5 Tryd.underlying45 Tryd.underlying5 w7.heap.size 0 s.size (grownCap w7 s.size 0 5) ((s.data.toList.map upU).map fun b => (b.toNat : Int)) (by simp) (fun i hi => by
        rw [Nat.zero_add, hcl i hi, if_pos hi]
        have hl' : i < s.data.toList.length := by simpa using hi
        simp [List.getD_eq_getElem?_getD, List.getElem?_eq_getElem hl']) 9 Tryd.underlying9
      rw [strOfNums_bytes] at hkv
      clear hcl hfz
      have hgr : s.data.toList.map upU = (textF n).map upU := by rw [← HS.out, bstr_list]
      rw [hgr] at hkv
      clear hgr
      go_wp2_with fail
      refine (name_Take.calls K _ n 0 _ H2.out).mono ?_
      rintro e w8 ⟨rfl, hb⟩
      have HB8 := Aside0.mk (hF.trans (hb.mono hF.size))
      clear hb hkv
      by_cases hr : n = rootB
      · have hu := HU.out
        rw [if_pos hr] at hu
        obtain ⟨e1, e2⟩ := Prod.mk.inj hu
        have hrl := root_iff.2 hr
        have r1 : (n.toList == [0]) = true := by rw [hrl]; rfl
        have r2 : (n.toList != [0]) = false := by rw [hrl]; rfl
        have hz2 : decide ((n.size : Int) ≤ 255) = true := decide_eq_true (by omega)
        have hz3 : decide (n.size ≤ 255) = true := decide_eq_true (by omega)
        subst e1 e2
        clear hu hrl hr
        go_wp2
        go_ret
        exact ⟨rfl, HB8.out⟩
      · have hu := HU.out
        rw [if_neg hr] at hu
        obtain ⟨e1, e2⟩ := Prod.mk.inj hu
        have hrl : n.toList ≠ [0] := fun hh => hr (root_iff.1 hh)
        have r1 : (n.toList == [0]) = false := beq_eq_false_iff_ne.2 hrl
        have r2 : (n.toList != [0]) = true := bne_iff_ne.2 hrl
        have hz2 : decide ((n.size : Int) ≤ 255) = true := decide_eq_true (by omega)
        have hz3 : decide (n.size ≤ 255) = true := decide_eq_true (by omega)
        subst e1 e2
        clear hu hrl hr
        go_wp2
        go_ret
        exact ⟨rfl, HB8.out⟩
theorem NameBack_walk (n : ByteArray) (w : World) (hT : TabW w) (w0 : n.size ≤ 140737488351232) (hb : (n.size + 1) ≤ 1048576) :
    Calls Tryd.prog 8 #[.string n] w fun e w' => e = .returned (.bool true) ∧ Below w.heap.size w w' := by
  rcases hm : mayB n with _ | _
  · exact back_no n (by omega) hm w
  · exact back_yes n hm w hT
end Go.Proofs.YthkpanggjbckkaaDoor.PN
