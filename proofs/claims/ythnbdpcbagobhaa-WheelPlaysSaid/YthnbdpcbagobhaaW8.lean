import Derived.Test.YthnbdpcbagobhaaW7
namespace Go.Proofs.Ythnbdpcbagobhaa
open Go Go.RowKit Go.Proofs.MapL

theorem elU : Elem Try.prog 62 23 (.int .u64 0) 1 8 := ⟨by kernel_rfl, by kernel_rfl, rfl, by omega⟩
def uv (t : Int) : Value := .int .u64 t
set_option maxRecDepth 100000 in
set_option maxHeartbeats 2000000 in
theorem min_calls {w : World} {base g c : Nat} {ls : List Int} (ho : w.ownsRow base 23 1 (.slice (some ⟨g, 0, none⟩) ls.length c) ls.length (ls.map uv)) (h0 : 0 < ls.length) (hl : ls.length < 1000000) : Calls Try.prog 24 #[.slice (some ⟨g, 0, none⟩) ls.length c] w fun r w' => ∃ m, r = .returned (.int .u64 m) ∧ (m ∈ ls ∧ ∀ x ∈ ls, m ≤ x) ∧ w' = w := by
  have hc : ∀ (j : Nat) (hj : j < ls.length), w.cell? ⟨g, j, none⟩ = some (.int .u64 ls[j]) := fun j hj => own_cell ho (by rw [List.getElem?_map, List.getElem?_eq_getElem hj]; rfl)
  have c0 := hc 0 h0
  have HC := Hd.mk hc
  clear hc ho
  obtain ⟨x0, hx0⟩ : ∃ x0, ls[0] = x0 := ⟨_, rfl⟩
  rw [hx0] at c0
  have HX := Hd.mk hx0
  clear hx0
  go_enter Try.func24, Try.ntmps24
  go_wp2_with fail
  clear c0
  go_loopw [3, 4] (fun v i wr => ∃ (j : Nat) (m : Int), 1 ≤ j ∧ j ≤ ls.length ∧ i = .int .i64 j ∧ v = .int .u64 m ∧ (m ∈ ls ∧ ∀ x ∈ ls.take j, m ≤ x) ∧ wr = w) (fun _ i _ => ls.length - (intOf i).toNat)
  case atStart => exact ⟨1, x0, Nat.le_refl _, h0, rfl, rfl, ⟨by rw [← HX.out]; exact List.getElem_mem h0, fun x hx => by
    rw [List.take_succ_eq_append_getElem h0] at hx
    simp [HX.out] at hx
    omega⟩, rfl⟩
  case round =>
    obtain ⟨j, m, hj1, hj, rfl, rfl, hm, rfl⟩ := hrel
    have HM := Hd.mk hm
    clear hm
    by_cases hlt : j < ls.length
    · have c0 := HC.out j hlt
      obtain ⟨y, hy⟩ : ∃ y, ls[j] = y := ⟨_, rfl⟩
      rw [hy] at c0
      have HY := Hd.mk hy
      clear hy
      go_wp2
      go_roundw
      case rel =>
        refine ⟨j + 1, min m y, by omega, by omega, by go_num, rfl, ⟨?_, fun x hx => ?_⟩, by simp⟩
        · rw [Int.min_def]; split
          · exact HM.out.1
          · rw [← HY.out]; exact List.getElem_mem hlt
        · rw [List.take_succ_eq_append_getElem hlt, HY.out] at hx
          have := Int.min_le_left m y
          have := Int.min_le_right m y
          rcases List.mem_append.1 hx with hx | hx
          · have := HM.out.2 x hx; omega
          · have := List.mem_singleton.1 hx; omega
      case measure => simp [intOf]; omega
    · go_wp2
      go_ret
      refine ⟨m, rfl, ⟨HM.out.1, fun x hx => HM.out.2 x ?_⟩, rfl⟩
      rw [List.take_of_length_le (by omega)]; exact hx
/-- The loop of Next. -/
def tOf (X : List It) (q : Int × Int) : Int := ((atI X q.1).map (·.t)).getD 0
def NextL (w : World) (b r : Nat) (Ls : List (Int × Int)) (X : List It) (v : Value) (wr : World) : Prop :=
  ∃ done, rangeIs eI vI Try.prog 3 wr b r Ls done ∧ wr.ownsRow w.heap.size 23 1 v done.length ((done.map (tOf X)).map uv) ∧ (done = [] → v = .slice none 0 0) ∧ Fr [] w wr
def NextR (w : World) (X : List It) (r : Ending) (w' : World) : Prop := ∃ m, r = .returned (.tuple #[.int .u64 m, .bool true]) ∧ (m ∈ X.map (·.t) ∧ ∀ x ∈ X, m ≤ x.t) ∧ Fr [] w w'
section
variable {w w' : World} {p g b c : Nat} {bs : List Nat} {tu : Int} {X Y : List It} {S : List Nat}
theorem next_nil (w : World) : Calls Try.prog 16 #[.pointer none] w fun r w' => r = .returned (.tuple #[.int .u64 0, .bool false]) ∧ w' = w := by
  go_enter Try.func16, Try.ntmps16
  go_wp2_with fail
  refine (len_nil _).mono ?_
  rintro r w1 ⟨rfl, rfl⟩
  go_wp2
  go_ret2
  exact ⟨rfl, rfl⟩
theorem next_none (h : WhAt w p g b c bs tu []) : Calls Try.prog 16 #[.pointer (some ⟨p, 0, none⟩)] w fun r w' => r = .returned (.tuple #[.int .u64 0, .bool false]) ∧ w' = w := by
  have hl := len_calls h
  have HL := Hd.mk hl
  clear hl h
  go_enter Try.func16, Try.ntmps16
  go_wp2_with fail
  refine HL.out.mono ?_
  rintro r w1 ⟨rfl, rfl⟩
  go_wp2
  go_ret2
  exact ⟨rfl, rfl⟩
set_option maxRecDepth 100000 in
set_option maxHeartbeats 2000000 in
theorem next_calls (h : WhAt w p g b c bs tu X) (h0 : 0 < X.length) (hX : X.length < 1000000) : Calls Try.prog 16 #[.pointer (some ⟨p, 0, none⟩)] w (NextR w X) := by
  have hl := len_calls h
  have hlz : ¬ (X.length : Int) = 0 := by omega
  have hmap := h.wh
  obtain ⟨h1, h2, h3, hf_⟩ := h.blk.cells3
  obtain ⟨Ls, hLs⟩ : ∃ Ls, whereL tu bs.length X = Ls := ⟨_, rfl⟩
  have hLl : Ls.length = X.length := by rw [← hLs]; exact h.len
  have hid : ∀ q ∈ Ls, IdOk q.1 := by
    rw [← hLs]; intro q hq; unfold whereL at hq; obtain ⟨x, hx, rfl⟩ := List.mem_map.1 hq; exact (h.ok x hx).1
  have hmp : Ls.map (tOf X) = X.map (·.t) := by
    rw [← hLs]; unfold whereL; rw [List.map_map]
    apply List.map_congr_left
    intro x hx
    show ((atI X x.i).map (·.t)).getD 0 = x.t
    rw [at_of h.ids hx]; rfl
  rw [hLs] at hmap
  have H := Hd.mk h
  have HL := Hd.mk hl
  have HID := Hd.mk hid
  have HMP := Hd.mk hmp
  clear h hl hid hmp hLs
  obtain ⟨N, hN⟩ : ∃ N : Int, (X.length : Int) = N := ⟨_, rfl⟩
  have hNz : (N == 0) = false := by rw [beq_eq_false_iff_ne]; omega
  rw [hN] at HL
  have HNN := Hd.mk hN
  clear hlz hN
  go_enter Try.func16, Try.ntmps16
  go_wp2_with fail
  refine HL.out.mono ?_
  rintro r w1 ⟨rfl, rfl⟩
  go_wp2_with (at_range; refine map_range rfl (.tmp 14) 49 rfl 3 kI Try.underlying49 rfl hmap ?_; intro w0 hrg0 hg0 hs0)
  go_frame
  have hF0 : Fr [] w1 w0 := (Fr.of_grown hg0).mono (by simp)
  have HAP := Hd.mk hmap.apart
  clear h1 h2 h3 hf_ hg0 hs0 hmap
  go_loopw [4] (fun v wr => NextL w1 b w1.heap.size Ls X v wr) (fun _ wr => wr.rangeLeft b w1.heap.size)
  case atStart => exact ⟨[], hrg0, World.ownsRow_nil _ _ _ _, fun _ => rfl, hF0⟩
  case round =>
    obtain ⟨done, hrg, hown, hvn, hfr⟩ := hrel
    have hsz := hfr.size
    have hdl := done_len hrg
    go_wp2_with (at_next; refine map_next eI_inj eI_lit vI (fun _ _ hh => i_inv hh) rfl (.tmp 15) rfl kI rfl hrg ?_ ?_)
    · intro hall
      have hpd := perm_done HAP.out (r_apart hrg) (r_sub hrg) (fun p hp => hall p.1 p.2 hp)
      have hpt := hpd.map (tOf X)
      rw [HMP.out] at hpt
      obtain ⟨ls, hls⟩ : ∃ ls, done.map (tOf X) = ls := ⟨_, rfl⟩
      have hln : done.length = ls.length := by rw [← hls, List.length_map]
      rw [hls] at hown hpt
      rw [hln] at hown
      have hl0 : 0 < ls.length := by rw [hpt.length_eq, List.length_map]; exact h0
      have hl1 : ls.length < 1000000 := by rw [hpt.length_eq, List.length_map]; exact hX
      obtain ⟨g2, c2, rfl, hgb, hgl⟩ := own_form hown hl0
      have hmc := min_calls hown hl0 hl1
      have HMC := Hd.mk hmc
      have HPT := Hd.mk hpt
      have HF := Hd.mk hfr
      clear hmc hpt hfr hown hrg hvn hall hpd hls
      go_wp2_with fail
      refine HMC.out.mono ?_
      rintro r w6 ⟨m, rfl, ⟨hm1, hm2⟩, rfl⟩
      have HM1 := Hd.mk hm1
      have HM2 := Hd.mk hm2
      clear hm1 hm2
      go_wp2
      go_ret2
      exact ⟨m, rfl, ⟨HPT.out.mem_iff.1 HM1.out, fun x hx => HM2.out x.t (HPT.out.mem_iff.2 (List.mem_map.2 ⟨x, hx, rfl⟩))⟩, HF.out⟩
    · intro q e w2 hmem hnew hrg2 hlt hgr hsz2 hen
      have hne := iter_ne hrg hown
      have hfr2 : Fr [w1.heap.size] wr w2 := Fr.of_grown hgr
      have hown2 := own_fr hown hfr2 (fun k hk => by simpa using (hne k hk).1)
      have hF2 : Fr [] w1 w2 := hfr.weak hfr2 (by simp)
      have HLT := Hd.mk hlt
      have hbz : w1.heap.size ≤ w2.heap.size := hF2.size
      have hat := at_calls (H.out.fr0 hF2) (HID.out (q, e) hmem)
      unfold atV at hat
      have HAT := Hd.mk hat
      have HF2 := Hd.mk hF2
      have HRG := Hd.mk hrg2
      have HTO : Hd (((atI X q).map (·.t)).getD 0 = tOf X (q, e)) := Hd.mk rfl
      clear hat hlt hsz2 hgr hrg hown hne hfr2 hfr hsz hvn hmem hnew hF2 hrg2
      unfold vI at hen
      go_wp2_with fail
      refine HAT.out.mono ?_
      rintro r w3 ⟨rfl, rfl⟩
      rw [HTO.out]
      go_wp2_with (at_builtin; refine wpList_app1s elU rfl (.tmp 26) (.tmp 28) rfl hown2 rfl [.int .u64 (tOf X (q, e))] rfl rfl (by simp [Value.oneCell']) (by omega) (by omega) hbz ?_; intro g7 c7 w7 ho7 hf7 hb7 hg7 hor7)
      have hne5 := iter_ne HRG.out hown2
      obtain ⟨hrg7, hl7⟩ := range_fr HRG.out hf7 (fun hx => (hne5 b (by simpa using hx)).2 rfl) (fun hx => (hne5 w1.heap.size (by simpa using hx)).1 rfl)
      have HL7 := Hd.mk hl7
      clear hl7
      go_roundw
      case rel =>
        refine ⟨done ++ [(q, e)], hrg7, ?_, ?_, HF2.out.weak hf7 (fun x hx => .inr (hown2.lt x (by simpa using hx)).1)⟩
        · simpa [uv] using ho7
        · simp
      case measure =>
        have e1 := HLT.out
        have e3 := HL7.out
        omega
end
end Go.Proofs.Ythnbdpcbagobhaa
