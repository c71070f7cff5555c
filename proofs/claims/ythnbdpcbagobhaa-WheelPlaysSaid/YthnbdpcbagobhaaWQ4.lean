import Derived.Test.YthnbdpcbagobhaaWQ3
namespace Go.Proofs.Ythnbdpcbagobhaa
open Go Go.RowKit Go.Proofs.MapL Go.Proofs.YthnbdpcbagobhaaW.PrintWords

set_option maxRecDepth 100000 in
set_option maxHeartbeats 4000000 in
theorem plays_law {w : World} {v : Value} {ds : List Wd} {size id : Int} (hs : IdOk size) (hD : DeedsAt w v ds) (hid : IdOk id) :
    Calls Try.prog 4 #[.int .i64 size, v, .int .i64 id] w fun r w' => r = .returned (.bool true) ∧ Fr [] w w' := by
  obtain ⟨hle, hok, A0, cd, rfl, hat⟩ := hD
  have HAT := Hd.mk hat
  have HOK := Hd.mk hok
  have HID := Hd.mk hid
  clear hat hok hid
  go_enter Try.func4, Try.ntmps4
  go_wp2_with fail
  refine (shown_calls _).mono ?_
  rintro r ws ⟨rfl, hF0⟩
  rcases Int.lt_or_le size 1 with hs1 | hs1
  · go_wp2_with fail
    refine (new_none size (.inl hs1) _).mono ?_
    rintro r w1 ⟨rfl, rfl⟩
    have HF0 := Hd.mk hF0
    clear hF0
    go_wp2_with fail
    refine (len_nil _).mono ?_
    rintro r w2 ⟨rfl, rfl⟩
    go_wp2
    go_ret
    exact ⟨rfl, HF0.out⟩
  rcases Int.lt_or_le 256 size with hs2 | hs2
  · go_wp2_with fail
    refine (new_none size (.inr hs2) _).mono ?_
    rintro r w1 ⟨rfl, rfl⟩
    have HF0 := Hd.mk hF0
    clear hF0
    go_wp2_with fail
    refine (len_nil _).mono ?_
    rintro r w2 ⟨rfl, rfl⟩
    go_wp2
    go_ret
    exact ⟨rfl, HF0.out⟩
  obtain ⟨sz, rfl⟩ := Int.eq_ofNat_of_zero_le (show 0 ≤ size by omega)
  go_wp2_with fail
  refine (new_calls sz (by omega) (by omega) _).mono ?_
  rintro r w1 ⟨p, g, b, c, bs, rfl, hW, hn, hf, hge⟩
  have hsz := hF0.size
  have HGP : Hd (∀ k ∈ p :: g :: b :: bs, w.heap.size ≤ k) := Hd.mk fun k hk => by
    have := hge k hk
    omega
  have HSP : Hd (∀ x ∈ p :: b :: bs, w.heap.size ≤ x) := Hd.mk fun x hx => HGP.out x (by simp only [List.mem_cons] at hx ⊢; rcases hx with h | h | h <;> simp [h])
  have hF := hF0.trans hf
  clear hF0 hf hge hn hsz
  go_wp2_with fail
  go_loopw [9, 10] (fun x i wr => ∃ (k : Nat) (l : List It) (tu : Int), k ≤ ds.length ∧ k ≤ 200 ∧ i = .int .i64 k ∧ WhAt wr p g b c bs tu l ∧ ItAt wr (p :: g :: b :: bs) x l ∧ SrtI l ∧ l.length ≤ k ∧ Fr [] w wr) (fun _ i _ => 200 - (intOf i).toNat)
  case atStart => exact ⟨0, [], 0, Nat.zero_le _, by omega, rfl, hW, ItAt.nil _ _, List.Pairwise.nil, by simp, hF⟩
  case round =>
    obtain ⟨k, l, tu, hk, hk2, rfl, hWr, hIt, hSr, hX, hFr⟩ := hrel
    clear hW hF
    by_cases hlt : k < ds.length
    · by_cases hlt2 : k < 200
      · obtain ⟨gd, off, rfl, hgl, hcc⟩ := HAT.out (by omega)
        obtain ⟨d, hd⟩ : ∃ d, ds[k] = d := ⟨_, rfl⟩
        have hcd := hcc k hlt
        have hdo := HOK.out (ds[k]) (List.getElem_mem hlt)
        rw [hd] at hcd hdo
        have hw0 : ∀ j u, d.c[j]? = some u → wr.cell? ⟨gd, off + k * 3 + j, none⟩ = some u := fun j u hu => hFr.cell (hcd j u hu) (by simp)
        have c0 : wr.cell? ⟨gd, off + k * 3, none⟩ = some (.int .i64 d.kind) := hw0 0 _ rfl
        have c1_ : wr.cell? ⟨gd, off + k * 3 + 1, none⟩ = some (.int .i64 d.id) := hw0 1 _ rfl
        have c2_ : wr.cell? ⟨gd, off + k * 3 + 2, none⟩ = some (.int .u64 d.at_) := hw0 2 _ rfl
        have hdo2 := do_any hWr hIt hSr (by omega) d hdo
        unfold Wd.v at hdo2
        have HDO := Hd.mk hdo2
        have HF := Hd.mk hFr
        have HX := Hd.mk hX
        clear hdo2 hcd hdo hw0 hcc hd hWr hIt hSr hX hFr
        go_wp2_with fail
        clear c0 c1_ c2_
        refine HDO.out.mono ?_
        rintro r w2 ⟨v', tu', l', rfl, hW2, hI2, hS2, hl2, hf2⟩
        have HF2 := Hd.mk (HF.out.weak hf2 (fun x hx => .inr (HSP.out x hx)))
        have HL2 : Hd (l'.length ≤ k + 1) := Hd.mk (by have := HX.out; omega)
        have HLM : Hd (l'.length < 1000000) := Hd.mk (by have := HX.out; omega)
        obtain ⟨A9, c9, rfl, hc9, -⟩ := hI2.at_
        have HW2 := Hd.mk hW2
        have HI2 := Hd.mk hI2
        have HS2 := Hd.mk hS2
        clear hW2 hI2 hS2 hf2 hl2 HDO HX
        have HAT1 := Hd.mk (at_calls HW2.out HID.out)
        have HAT2 := Hd.mk (ref_at HI2.out HLM.out id)
        unfold atV at HAT1 HAT2
        obtain ⟨a1, ha1⟩ : ∃ a1, ((atI l' id).map (·.t)).getD 0 = a1 := ⟨_, rfl⟩
        obtain ⟨i1, hi1⟩ : ∃ i1, (atI l' id).isSome = i1 := ⟨_, rfl⟩
        rw [ha1, hi1] at HAT1 HAT2
        clear ha1 hi1
        go_wp2_with fail
        refine HAT1.out.mono ?_
        rintro r w3 ⟨rfl, rfl⟩
        go_wp2_with fail
        refine HAT2.out.mono ?_
        rintro r w4 ⟨rfl, hf4⟩
        have HF4 := Hd.mk hf4
        clear hf4 HAT1 HAT2
        obtain ⟨m1, hm1⟩ : ∃ m1, nextT l' = m1 := ⟨_, rfl⟩
        obtain ⟨n1, hn1⟩ : ∃ n1, decide (0 < l'.length) = n1 := ⟨_, rfl⟩
        have HNX := Hd.mk (next_any (HW2.out.fr0 HF4.out) HLM.out)
        unfold nextV at HNX
        rw [hm1, hn1] at HNX
        go_wp2_with fail
        refine HNX.out.mono ?_
        rintro r w5 ⟨rfl, hf5⟩
        have HF5 := Hd.mk (HF4.out.trans hf5)
        clear hf5 HNX
        have HNX := Hd.mk (ref_next (HI2.out.fr (HF5.out.mono (by simp))) HS2.out)
        unfold nextV at HNX
        rw [hm1, hn1] at HNX
        clear hm1 hn1
        go_wp2_with fail
        refine HNX.out.mono ?_
        rintro r w6 ⟨rfl, hf6⟩
        have HF6 := Hd.mk (HF5.out.trans hf6)
        clear hf6 HNX
        go_wp2_with fail
        refine (len_calls (HW2.out.fr0 HF6.out)).mono ?_
        rintro r w7 ⟨rfl, rfl⟩
        have HW7 := Hd.mk (HW2.out.fr0 HF6.out)
        have HI7 := Hd.mk (HI2.out.fr (HF6.out.mono (T := p :: g :: b :: bs) (by simp)))
        have HF7 := Hd.mk (HF2.out.trans HF6.out)
        go_wp2
        go_roundw
        case rel => exact ⟨k + 1, l', tu', by omega, by omega, by go_num, HW7.out, HI7.out, HS2.out, HL2.out, HF7.out⟩
        case measure => simp [intOf]; omega
      · have HF := Hd.mk hFr
        clear hFr hWr hIt hSr
        go_wp2
        go_ret
        exact ⟨rfl, HF.out⟩
    · have HF := Hd.mk hFr
      clear hFr hWr hIt hSr
      go_wp2
      go_ret
      exact ⟨rfl, HF.out⟩
end Go.Proofs.Ythnbdpcbagobhaa
