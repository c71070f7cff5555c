import Derived.Test.YtbmejolmbfmdiaaM2
namespace Go.Proofs.Ytbmejolmbfmdiaa
open Go Go.RowKit Go.Proofs.MapL

/-- What Insert tells, and leaves. -/
def insC (L : List En) (room : Int) (e : En) (now : Int) : Int :=
  if liveB e.expire now then match findE L e.q with
    | some o => if beatsB o e now then 0 else 7
    | none => if (L.length : Int) ≥ room then 5 else 0
  else 4
def insL (L : List En) (room : Int) (e : En) (now : Int) : List En := if insC L room e now = 0 then putE L e else L
theorem insert_nil (e : En) (now : Int) (w : World) : Calls Try.prog 25 #[.pointer none, e.v, .int .u64 now] w fun r w' => r = .returned (.int .i64 1) ∧ Fr [] w w' := by
  unfold En.v
  have hal := (Fr.refl [] w).alloc (.cells e.c.toArray 32)
  unfold En.c at hal
  go_enter Try.func25, Try.ntmps25
  go_wp2
  go_ret
  exact ⟨rfl, hal⟩
set_option maxRecDepth 100000 in
set_option maxHeartbeats 4000000 in
theorem insert_calls {w : World} {p b : Nat} {room : Int} {L : List En} (h : MAt w p b room L) (hL : L.length < maxLen) (e : En) (now : Int) : Calls Try.prog 25 #[.pointer (some ⟨p, 0, none⟩), e.v, .int .u64 now] w fun r w' => r = .returned (.int .i64 (insC L room e now)) ∧ MAt w' p b room (insL L room e now) ∧ Fr [b] w w' := by
  have hL := Hd.mk hL
  rcases hl : liveB e.expire now with _ | _
  · have e1 : insC L room e now = 4 := by unfold insC; rw [hl]; rfl
    have e2 : insL L room e now = L := by unfold insL; rw [e1]; rfl
    rw [e1, e2]
    clear e1 e2
    unfold En.v
    have hal := (Fr.refl [] w).alloc (.cells e.c.toArray 32)
    have hM := h.fr hal (by simp) (by simp)
    have hal : Fr [b] w _ := hal.mono (by simp)
    unfold En.c at hal hM
    go_enter Try.func25, Try.ntmps25
    go_wp2_with fail
    refine (live_calls _ _ _).mono ?_
    rintro r w1 ⟨rfl, rfl⟩
    rw [hl]
    go_wp2
    go_ret
    exact ⟨rfl, hM, hal⟩
  · have e1 : insC L room e now = (match findE L e.q with
      | some o => if beatsB o e now then 0 else 7
      | none => if (L.length : Int) ≥ room then 5 else 0) := by unfold insC; rw [hl]; rfl
    have e2 : insL L room e now = if insC L room e now = 0 then putE L e else L := rfl
    rw [e1] at e2
    rw [e1, e2]
    clear e1 e2
    obtain ⟨C, hC⟩ : ∃ C, (match findE L e.q with
      | some o => if beatsB o e now then (0 : Int) else 7
      | none => if (L.length : Int) ≥ room then 5 else 0) = C := ⟨_, rfl⟩
    rw [hC]
    obtain ⟨LL, hLL⟩ : ∃ LL, (if C = 0 then putE L e else L) = LL := ⟨_, rfl⟩
    rw [hLL]
    unfold En.v
    rcases hf : findE L e.q with _ | o
    · rw [hf] at hC
      dsimp only at hC
      have HC := Hd.mk hC
      have HLL := Hd.mk hLL
      clear hC hLL
      have HF0 := Hd.mk hf
      clear hf
      go_enter Try.func25, Try.ntmps25
      go_wp2_with fail
      refine (live_calls _ _ _).mono ?_
      rintro r w1 ⟨rfl, rfl⟩
      rw [hl]
      clear hl
      go_wp2_with fail
      refine wp_name ?_
      intro w1 hw1
      have hF : Fr [] w w1 := by rw [hw1]; exact (Fr.refl [] w).alloc _
      have hbx : Blk w1.drew w.heap.size 32 e.c := by rw [hw1]; exact Blk.new _ _ _
      unfold En.c at hbx
      have hN : w1.heap.size = w.heap.size + 1 := by rw [hw1]; simp
      clear hw1
      have h1 := h.fr hF (by simp) (by simp)
      have hplt := h.plt
      have hblt := h.blt
      have hbN : b < w.heap.size + 1 := by have := h.blt; omega
      have hc0 : w1.drew.cell? ⟨p, 0, none⟩ = some (.map (some b)) := h1.cells.1
      have hmp := map_drew h1.map
      refine wp_region_gs { R := FrT (w.heap.size + 1) [] 32, R1 := Fr [], gs := [Is (.pointer (some ⟨p, 0, none⟩)), Is (.pointer (some ⟨p, 0, none⟩)), Is (.pointer (some ⟨p, 0, none⟩)), Is (.map (some b)), Is (.pointer (some ⟨w.heap.size, 0, none⟩)), Is (.agg #[.string e.q.name, .int .u16 e.q.ty, .int .u16 e.q.cl]), Is (.tuple #[.agg #[.string ⟨#[]⟩, .int .u16 0, .int .u16 0, .slice none 0 0, .int .i64 0, .int .i64 0, .int .u64 0], .bool false]), Is (.tuple #[.agg #[.string ⟨#[]⟩, .int .u16 0, .int .u16 0, .slice none 0 0, .int .i64 0, .int .i64 0, .int .u64 0], .bool false]), Is (.agg #[.string ⟨#[]⟩, .int .u16 0, .int .u16 0, .slice none 0 0, .int .i64 0, .int .i64 0, .int .u64 0]), Is (.bool false), (fun (v : Value) (w2 : World) => ∃ g, v = .pointer (some ⟨g, 0, none⟩) ∧ w.heap.size + 1 ≤ g ∧ BlkN w2 g 32 7), No, Is (.bool false)], ds := [some 19, some 20, some 21, some 22, some 23, some 24, some 25, some 18, some 26, some 27, some 7, none, some 8], fl := [false, false, false, false, false, false, false, false, false, false, false, true, false], hs := [fun _ _ => True, fun l w2 => ∃ g, l = [.pointer (some ⟨g, 0, none⟩)] ∧ w.heap.size + 1 ≤ g ∧ Blk w2 g 32 [.string ⟨#[]⟩, .int .u16 0, .int .u16 0, .slice none 0 0, .int .i64 0, .int .i64 0, .int .u64 0]], hd := [[], [7]] } [false, false, false, false, false, false, false, true, true, false, false, false, false, false, false, false, false, false, true, true, true, true, true, true, true, true, true, true, false, false, false, false, false, false, false, false, false, false, false, false, false, false, false, false, false, false, false, false, false, false, false] (by kernel_rfl) _ (by kernel_rfl) (by kernel_rfl) (by kernel_rfl) (by kernel_rfl) rfl [] (fun _ _ _ h1 h2 => h1.trans h2) (fun _ _ h => FrT.of (h.mono (by simp))) (staI (staI (staI (staI (staI (staI (staI (staI (staI (staI (sta (fun _ _ _ hf ⟨g, h1, h2, h3⟩ => ⟨g, h1, h2, h3.frT hf (by simp)⟩) (staN (staI sta0))))))))))))) (sth (fun _ _ _ _ h => h) (sth (fun _ _ _ hf ⟨g, h1, h2, h3⟩ => ⟨g, h1, h2, h3.fr hf (by simp)⟩) sth0)) (fun _ _ h => h.size) _ (FrT.of (Fr.refl _ _)) trivial ?_ ?_
      · refine ⟨?_, ?_, ?_, ?_, ?_, ?_, ?_, ?_, ?_, ?_, ?_, ?_, ?_, trivial⟩
        · intro σ w' hR hd
          simp only [fill, Nat.reduceAdd, if_true, Bool.false_eq_true, if_false]
          clear hd
          go_wp2
          exact ⟨Fr.refl _ _, rfl⟩
        · intro σ w' hR hd
          simp only [fill, Nat.reduceAdd, if_true, Bool.false_eq_true, if_false]
          obtain h19 : σ 19 = _ := hd 0 (by decide)
          rw [h19]
          clear h19
          clear hd
          go_wp2
          exact ⟨Fr.refl _ _, rfl⟩
        · intro σ w' hR hd
          simp only [fill, Nat.reduceAdd, if_true, Bool.false_eq_true, if_false]
          obtain h20 : σ 20 = _ := hd 1 (by decide)
          rw [h20]
          clear h20
          clear hd
          go_wp2
          exact ⟨Fr.refl _ _, rfl⟩
        · intro σ w' hR hd
          simp only [fill, Nat.reduceAdd, if_true, Bool.false_eq_true, if_false]
          obtain h21 : σ 21 = _ := hd 2 (by decide)
          rw [h21]
          clear h21
          clear hd
          have c3 := hR.cell (a := ⟨p, 0, none⟩) (v := .map (some b)) hc0 (by simp) (by simp only; omega)
          go_wp2
          exact ⟨Fr.refl _ _, rfl⟩
        · intro σ w' hR hd
          simp only [fill, Nat.reduceAdd, if_true, Bool.false_eq_true, if_false]
          clear hd
          go_wp2
          exact ⟨Fr.refl _ _, rfl⟩
        · intro σ w' hR hd
          simp only [fill, Nat.reduceAdd, if_true, Bool.false_eq_true, if_false]
          obtain h23 : σ 23 = _ := hd 4 (by decide)
          rw [h23]
          clear h23
          clear hd
          obtain ⟨d0, d1, d2, d3, d4, d5, d6, df⟩ := (hbx.frT hR (by simp) (.inl (by omega))).cells7
          go_wp2
          exact ⟨Fr.refl _ _, rfl⟩
        · intro σ w' hR hd
          simp only [fill, Nat.reduceAdd, if_true, Bool.false_eq_true, if_false]
          obtain h22 : σ 22 = _ := hd 3 (by decide)
          obtain h24 : σ 24 = _ := hd 5 (by decide)
          rw [h22, h24]
          clear h22 h24
          clear hd
          have hm2 := map_frT hmp hR (by simp) hbN
          have hrun := hm2.look_ok kq Try.underlying59 (zero35 w') (key_q e.q)
          rw [kv_find, HF0.out] at hrun
          simp only [Option.map_some, Option.map_none, Option.getD_some, Option.getD_none, Option.isSome_some, Option.isSome_none] at hrun
          unfold Qn.v at hrun
          go_wp2
          exact ⟨Fr.refl _ _, rfl⟩
        · intro σ w' hR hd
          simp only [fill, Nat.reduceAdd, if_true, Bool.false_eq_true, if_false]
          obtain h25 : σ 25 = _ := hd 6 (by decide)
          rw [h25]
          clear h25
          clear hd
          go_wp2
          exact ⟨Fr.refl _ _, rfl⟩
        · intro σ w' hR hd
          simp only [fill, Nat.reduceAdd, if_true, Bool.false_eq_true, if_false]
          obtain h18 : σ 18 = _ := hd 7 (by decide)
          rw [h18]
          clear h18
          clear hd
          go_wp2
          exact ⟨Fr.refl _ _, rfl⟩
        · intro σ w' hR hd
          simp only [fill, Nat.reduceAdd, if_true, Bool.false_eq_true, if_false]
          obtain h18 : σ 18 = _ := hd 7 (by decide)
          rw [h18]
          clear h18
          clear hd
          go_wp2
          exact ⟨Fr.refl _ _, rfl⟩
        · intro σ w' hR hd
          simp only [fill, Nat.reduceAdd, if_true, Bool.false_eq_true, if_false]
          clear hd
          have hz := hR.size
          simp only [World.size_drew] at hz
          go_wp2
          exact ⟨(Fr.refl _ _).alloc _, ⟨_, rfl, by omega, _, rfl, Blk.new _ _ _⟩⟩
        · intro σ w' hR hd hH
          simp only [fill, Nat.reduceAdd, if_true, Bool.false_eq_true, if_false]
          obtain ⟨g, h7, hg1, cs, hcl, hgb⟩ : (fun (v : Value) (w2 : World) => ∃ g, v = .pointer (some ⟨g, 0, none⟩) ∧ w.heap.size + 1 ≤ g ∧ BlkN w2 g 32 7) (σ 7) w' := hd 10 (by decide)
          obtain h26 : σ 26 = _ := hd 8 (by decide)
          rw [h7, h26]
          clear h7 h26
          clear hd
          match cs, hcl, hgb with
          | [e0, e1, e2, e3, e4, e5, e6], _, hgb =>
          obtain ⟨r0, r1, r2, r3, r4, r5, r6, rf⟩ := hgb.cells7
          go_wp2
          clear r0 r1 r2 r3 r4 r5 r6 rf
          obtain ⟨hq2, hfq⟩ := hgb.seven (a' := .string ⟨#[]⟩) (b' := .int .u16 0) (c' := .int .u16 0) (d' := .slice none 0 0) (e' := .int .i64 0) (f' := .int .i64 0) (h' := .int .u64 0) rfl
          exact ⟨FrT.set hfq hg1 hgb hq2 rfl, trivial, ⟨g, rfl, hg1, hq2⟩⟩
        · intro σ w' hR hd
          simp only [fill, Nat.reduceAdd, if_true, Bool.false_eq_true, if_false]
          obtain h27 : σ 27 = _ := hd 9 (by decide)
          rw [h27]
          clear h27
          clear hd
          go_wp2
          exact ⟨Fr.refl _ _, rfl⟩
      · intro σ w3 hR hG hH
        obtain h8 : σ 8 = _ := hG 12 (by decide)
        obtain ⟨g, h7, hg1, hgb⟩ : ∃ g, [σ 7] = [.pointer (some ⟨g, 0, none⟩)] ∧ w.heap.size + 1 ≤ g ∧ Blk w3 g 32 [.string ⟨#[]⟩, .int .u16 0, .int .u16 0, .slice none 0 0, .int .i64 0, .int .i64 0, .int .u64 0] := hH
        have h7 : σ 7 = .pointer (some ⟨g, 0, none⟩) := by simpa using h7
        simp only [fill, Nat.reduceAdd, if_true, Bool.false_eq_true, if_false, h8, h7]
        clear h8 h7
        clear hG
        have hF2 : Fr [] w w3 := hF.trans ((Fr.drew (Fr.refl [] w1)).trans (hR.fr (by simp; omega)))
        have hbx3 := hbx.frT hR (by simp) (.inl (by omega))
        clear hgb
        have hM3 := h.fr hF2 (by simp) (by simp)
        by_cases hfull : (L.length : Int) ≥ room
        · have e3 : decide ((L.length : Int) ≥ room) = true := decide_eq_true hfull
          have hC := Hd.mk ((if_pos hfull).symm.trans HC.out)
          go_wp2_with fail
          refine (full_calls hM3).mono ?_
          rintro r w4 ⟨rfl, hF4⟩
          rw [e3]
          have hM4 := hM3.fr hF4 (by simp) (by simp)
          have hF5 : Fr [b] w w4 := (hF2.trans hF4).mono (by simp)
          go_wp2
          go_ret
          have hC := hC.out
          subst hC
          have hLL := HLL.out
          rw [if_neg (by decide)] at hLL
          subst hLL
          exact ⟨rfl, hM4, hF5⟩
        · have e3 : decide ((L.length : Int) ≥ room) = false := decide_eq_false hfull
          have hC := Hd.mk ((if_neg hfull).symm.trans HC.out)
          go_wp2_with fail
          refine (full_calls hM3).mono ?_
          rintro r w4 ⟨rfl, hF4⟩
          rw [e3]
          have hbx4 := hbx3.fr hF4 (by simp)
          have hF4 := hF2.trans hF4
          clear hM3
          go_wp2_with fail
          refine wp_name ?_
          intro w4 hw4
          have hF4 : Fr [] w w4 := by rw [hw4]; exact hF4
          have hbx4 : Blk w4.drew w.heap.size 32 [.string e.q.name, .int .u16 e.q.ty, .int .u16 e.q.cl, .slice e.ra e.rn e.rc, .int .i64 e.rcode, .int .i64 e.rank, .int .u64 e.expire] := by rw [hw4]; exact hbx4
          clear hw4
          have h4 := h.fr hF4 (by simp) (by simp)
          have hbp := h.ne
          have hc4 : w4.drew.cell? ⟨p, 0, none⟩ = some (.map (some b)) := h4.cells.1
          have hmp4 := map_drew h4.map
          clear h4
          refine wp_region_gs { R := Fr [b], R1 := Fr [], gs := [Is (.pointer (some ⟨p, 0, none⟩)), Is (.pointer (some ⟨p, 0, none⟩)), Is (.pointer (some ⟨p, 0, none⟩)), Is (.map (some b)), Is (.pointer (some ⟨w.heap.size, 0, none⟩)), Is (.agg #[.string e.q.name, .int .u16 e.q.ty, .int .u16 e.q.cl]), Is (.agg #[.string e.q.name, .int .u16 e.q.ty, .int .u16 e.q.cl, .slice e.ra e.rn e.rc, .int .i64 e.rcode, .int .i64 e.rank, .int .u64 e.expire]), No], ds := [some 44, some 45, some 46, some 47, some 48, some 49, some 50, none], fl := [false, false, false, false, false, false, false, true], hs := [fun _ w2 => mapIs Qn.lit En.v Try.prog 28 w2 b (kv L), fun _ w2 => mapIs Qn.lit En.v Try.prog 28 w2 b (kv (putE L e))], hd := [[], []] } [false, false, false, false, false, false, false, false, false, false, false, false, false, false, false, false, false, false, false, false, false, false, false, false, false, false, false, false, false, false, false, false, false, false, false, false, false, false, false, false, false, false, false, false, true, true, true, true, true, true, true] (by kernel_rfl) _ (by kernel_rfl) (by kernel_rfl) (by kernel_rfl) (by kernel_rfl) rfl [] (fun _ _ _ h1 h2 => h1.trans h2) (fun _ _ h => h.mono (by simp)) (staI (staI (staI (staI (staI (staI (staI (staN sta0)))))))) (sth (fun _ _ _ hf h => map_fr h hf (by simp)) (sth (fun _ _ _ hf h => map_fr h hf (by simp)) sth0)) (fun _ _ h => h.size) _ (Fr.refl _ _) hmp4 ?_ ?_
          · refine ⟨?_, ?_, ?_, ?_, ?_, ?_, ?_, ?_, trivial⟩
            · intro σ w' hR hd
              simp only [fill, Nat.reduceAdd, if_true, Bool.false_eq_true, if_false]
              clear hd
              go_wp2
              exact ⟨Fr.refl _ _, rfl⟩
            · intro σ w' hR hd
              simp only [fill, Nat.reduceAdd, if_true, Bool.false_eq_true, if_false]
              obtain h44 : σ 44 = _ := hd 0 (by decide)
              rw [h44]
              clear h44
              clear hd
              go_wp2
              exact ⟨Fr.refl _ _, rfl⟩
            · intro σ w' hR hd
              simp only [fill, Nat.reduceAdd, if_true, Bool.false_eq_true, if_false]
              obtain h45 : σ 45 = _ := hd 1 (by decide)
              rw [h45]
              clear h45
              clear hd
              go_wp2
              exact ⟨Fr.refl _ _, rfl⟩
            · intro σ w' hR hd
              simp only [fill, Nat.reduceAdd, if_true, Bool.false_eq_true, if_false]
              obtain h46 : σ 46 = _ := hd 2 (by decide)
              rw [h46]
              clear h46
              clear hd
              have c3 := hR.cell (a := ⟨p, 0, none⟩) (v := .map (some b)) hc4 (by simpa using Ne.symm hbp)
              go_wp2
              exact ⟨Fr.refl _ _, rfl⟩
            · intro σ w' hR hd
              simp only [fill, Nat.reduceAdd, if_true, Bool.false_eq_true, if_false]
              clear hd
              go_wp2
              exact ⟨Fr.refl _ _, rfl⟩
            · intro σ w' hR hd
              simp only [fill, Nat.reduceAdd, if_true, Bool.false_eq_true, if_false]
              obtain h48 : σ 48 = _ := hd 4 (by decide)
              rw [h48]
              clear h48
              clear hd
              obtain ⟨d0, d1, d2, d3, d4, d5, d6, df⟩ := (hbx4.fr hR (by simp only [List.mem_singleton]; omega)).cells7
              go_wp2
              exact ⟨Fr.refl _ _, rfl⟩
            · intro σ w' hR hd
              simp only [fill, Nat.reduceAdd, if_true, Bool.false_eq_true, if_false]
              clear hd
              obtain ⟨d0, d1, d2, d3, d4, d5, d6, df⟩ := (hbx4.fr hR (by simp only [List.mem_singleton]; omega)).cells7
              go_wp2
              exact ⟨Fr.refl _ _, rfl⟩
            · intro σ w' hR hd hH
              simp only [fill, Nat.reduceAdd, if_true, Bool.false_eq_true, if_false]
              obtain h47 : σ 47 = _ := hd 3 (by decide)
              obtain h49 : σ 49 = _ := hd 5 (by decide)
              obtain h50 : σ 50 = _ := hd 6 (by decide)
              rw [h47, h49, h50]
              clear h47 h49 h50
              clear hd
              have hm5 : mapIs Qn.lit En.v Try.prog 28 w' b (kv L) := hH
              obtain ⟨w5, hrun, hm6, htn⟩ := hm5.update lit_inj kq Try.underlying59 (by rw [kv_len]; exact hL.out) (key_q e.q) (lit_key e.q) e
              clear hm5
              unfold Qn.v En.v at hrun
              rw [kv_put] at hm6
              go_wp2
              exact ⟨Fr.turned htn, trivial, hm6⟩
          · intro σ3 w3' hR' hG' hH'
            simp only [fill, Nat.reduceAdd, if_true, Bool.false_eq_true, if_false]
            clear hG'
            have hF5 : Fr [b] w w3' := (hF4.mono (by simp)).trans ((Fr.drew (Fr.refl [b] w4)).trans hR')
            have hM5 : MAt w3' p b room (putE L e) := ⟨h.blk.fr hF5 (by simpa using Ne.symm hbp), hH'⟩
            go_wp2
            go_ret
            have hC := hC.out
            subst hC
            have hLL := HLL.out
            rw [if_pos rfl] at hLL
            subst hLL
            exact ⟨rfl, hM5, hF5⟩
    · rw [hf] at hC
      dsimp only at hC
      have HC := Hd.mk hC
      have HLL := Hd.mk hLL
      clear hC hLL
      have HF0 := Hd.mk hf
      clear hf
      go_enter Try.func25, Try.ntmps25
      go_wp2_with fail
      refine (live_calls _ _ _).mono ?_
      rintro r w1 ⟨rfl, rfl⟩
      rw [hl]
      clear hl
      go_wp2_with fail
      refine wp_name ?_
      intro w1 hw1
      have hF : Fr [] w w1 := by rw [hw1]; exact (Fr.refl [] w).alloc _
      have hbx : Blk w1.drew w.heap.size 32 e.c := by rw [hw1]; exact Blk.new _ _ _
      unfold En.c at hbx
      have hN : w1.heap.size = w.heap.size + 1 := by rw [hw1]; simp
      clear hw1
      have h1 := h.fr hF (by simp) (by simp)
      have hplt := h.plt
      have hblt := h.blt
      have hbN : b < w.heap.size + 1 := by have := h.blt; omega
      have hc0 : w1.drew.cell? ⟨p, 0, none⟩ = some (.map (some b)) := h1.cells.1
      have hmp := map_drew h1.map
      refine wp_region_gs { R := FrT (w.heap.size + 1) [] 32, R1 := Fr [], gs := [Is (.pointer (some ⟨p, 0, none⟩)), Is (.pointer (some ⟨p, 0, none⟩)), Is (.pointer (some ⟨p, 0, none⟩)), Is (.map (some b)), Is (.pointer (some ⟨w.heap.size, 0, none⟩)), Is (.agg #[.string e.q.name, .int .u16 e.q.ty, .int .u16 e.q.cl]), Is (.tuple #[.agg #[.string o.q.name, .int .u16 o.q.ty, .int .u16 o.q.cl, .slice o.ra o.rn o.rc, .int .i64 o.rcode, .int .i64 o.rank, .int .u64 o.expire], .bool true]), Is (.tuple #[.agg #[.string o.q.name, .int .u16 o.q.ty, .int .u16 o.q.cl, .slice o.ra o.rn o.rc, .int .i64 o.rcode, .int .i64 o.rank, .int .u64 o.expire], .bool true]), Is (.agg #[.string o.q.name, .int .u16 o.q.ty, .int .u16 o.q.cl, .slice o.ra o.rn o.rc, .int .i64 o.rcode, .int .i64 o.rank, .int .u64 o.expire]), Is (.bool true), (fun (v : Value) (w2 : World) => ∃ g, v = .pointer (some ⟨g, 0, none⟩) ∧ w.heap.size + 1 ≤ g ∧ BlkN w2 g 32 7), No, Is (.bool true)], ds := [some 19, some 20, some 21, some 22, some 23, some 24, some 25, some 18, some 26, some 27, some 7, none, some 8], fl := [false, false, false, false, false, false, false, false, false, false, false, true, false], hs := [fun _ _ => True, fun l w2 => ∃ g, l = [.pointer (some ⟨g, 0, none⟩)] ∧ w.heap.size + 1 ≤ g ∧ Blk w2 g 32 [.string o.q.name, .int .u16 o.q.ty, .int .u16 o.q.cl, .slice o.ra o.rn o.rc, .int .i64 o.rcode, .int .i64 o.rank, .int .u64 o.expire]], hd := [[], [7]] } [false, false, false, false, false, false, false, true, true, false, false, false, false, false, false, false, false, false, true, true, true, true, true, true, true, true, true, true, false, false, false, false, false, false, false, false, false, false, false, false, false, false, false, false, false, false, false, false, false, false, false] (by kernel_rfl) _ (by kernel_rfl) (by kernel_rfl) (by kernel_rfl) (by kernel_rfl) rfl [] (fun _ _ _ h1 h2 => h1.trans h2) (fun _ _ h => FrT.of (h.mono (by simp))) (staI (staI (staI (staI (staI (staI (staI (staI (staI (staI (sta (fun _ _ _ hf ⟨g, h1, h2, h3⟩ => ⟨g, h1, h2, h3.frT hf (by simp)⟩) (staN (staI sta0))))))))))))) (sth (fun _ _ _ _ h => h) (sth (fun _ _ _ hf ⟨g, h1, h2, h3⟩ => ⟨g, h1, h2, h3.fr hf (by simp)⟩) sth0)) (fun _ _ h => h.size) _ (FrT.of (Fr.refl _ _)) trivial ?_ ?_
      · refine ⟨?_, ?_, ?_, ?_, ?_, ?_, ?_, ?_, ?_, ?_, ?_, ?_, ?_, trivial⟩
        · intro σ w' hR hd
          simp only [fill, Nat.reduceAdd, if_true, Bool.false_eq_true, if_false]
          clear hd
          go_wp2
          exact ⟨Fr.refl _ _, rfl⟩
        · intro σ w' hR hd
          simp only [fill, Nat.reduceAdd, if_true, Bool.false_eq_true, if_false]
          obtain h19 : σ 19 = _ := hd 0 (by decide)
          rw [h19]
          clear h19
          clear hd
          go_wp2
          exact ⟨Fr.refl _ _, rfl⟩
        · intro σ w' hR hd
          simp only [fill, Nat.reduceAdd, if_true, Bool.false_eq_true, if_false]
          obtain h20 : σ 20 = _ := hd 1 (by decide)
          rw [h20]
          clear h20
          clear hd
          go_wp2
          exact ⟨Fr.refl _ _, rfl⟩
        · intro σ w' hR hd
          simp only [fill, Nat.reduceAdd, if_true, Bool.false_eq_true, if_false]
          obtain h21 : σ 21 = _ := hd 2 (by decide)
          rw [h21]
          clear h21
          clear hd
          have c3 := hR.cell (a := ⟨p, 0, none⟩) (v := .map (some b)) hc0 (by simp) (by simp only; omega)
          go_wp2
          exact ⟨Fr.refl _ _, rfl⟩
        · intro σ w' hR hd
          simp only [fill, Nat.reduceAdd, if_true, Bool.false_eq_true, if_false]
          clear hd
          go_wp2
          exact ⟨Fr.refl _ _, rfl⟩
        · intro σ w' hR hd
          simp only [fill, Nat.reduceAdd, if_true, Bool.false_eq_true, if_false]
          obtain h23 : σ 23 = _ := hd 4 (by decide)
          rw [h23]
          clear h23
          clear hd
          obtain ⟨d0, d1, d2, d3, d4, d5, d6, df⟩ := (hbx.frT hR (by simp) (.inl (by omega))).cells7
          go_wp2
          exact ⟨Fr.refl _ _, rfl⟩
        · intro σ w' hR hd
          simp only [fill, Nat.reduceAdd, if_true, Bool.false_eq_true, if_false]
          obtain h22 : σ 22 = _ := hd 3 (by decide)
          obtain h24 : σ 24 = _ := hd 5 (by decide)
          rw [h22, h24]
          clear h22 h24
          clear hd
          have hm2 := map_frT hmp hR (by simp) hbN
          have hrun := hm2.look_ok kq Try.underlying59 (zero35 w') (key_q e.q)
          rw [kv_find, HF0.out] at hrun
          simp only [Option.map_some, Option.map_none, Option.getD_some, Option.getD_none, Option.isSome_some, Option.isSome_none] at hrun
          unfold Qn.v at hrun
          go_wp2
          exact ⟨Fr.refl _ _, rfl⟩
        · intro σ w' hR hd
          simp only [fill, Nat.reduceAdd, if_true, Bool.false_eq_true, if_false]
          obtain h25 : σ 25 = _ := hd 6 (by decide)
          rw [h25]
          clear h25
          clear hd
          go_wp2
          exact ⟨Fr.refl _ _, rfl⟩
        · intro σ w' hR hd
          simp only [fill, Nat.reduceAdd, if_true, Bool.false_eq_true, if_false]
          obtain h18 : σ 18 = _ := hd 7 (by decide)
          rw [h18]
          clear h18
          clear hd
          go_wp2
          exact ⟨Fr.refl _ _, rfl⟩
        · intro σ w' hR hd
          simp only [fill, Nat.reduceAdd, if_true, Bool.false_eq_true, if_false]
          obtain h18 : σ 18 = _ := hd 7 (by decide)
          rw [h18]
          clear h18
          clear hd
          go_wp2
          exact ⟨Fr.refl _ _, rfl⟩
        · intro σ w' hR hd
          simp only [fill, Nat.reduceAdd, if_true, Bool.false_eq_true, if_false]
          clear hd
          have hz := hR.size
          simp only [World.size_drew] at hz
          go_wp2
          exact ⟨(Fr.refl _ _).alloc _, ⟨_, rfl, by omega, _, rfl, Blk.new _ _ _⟩⟩
        · intro σ w' hR hd hH
          simp only [fill, Nat.reduceAdd, if_true, Bool.false_eq_true, if_false]
          obtain ⟨g, h7, hg1, cs, hcl, hgb⟩ : (fun (v : Value) (w2 : World) => ∃ g, v = .pointer (some ⟨g, 0, none⟩) ∧ w.heap.size + 1 ≤ g ∧ BlkN w2 g 32 7) (σ 7) w' := hd 10 (by decide)
          obtain h26 : σ 26 = _ := hd 8 (by decide)
          rw [h7, h26]
          clear h7 h26
          clear hd
          match cs, hcl, hgb with
          | [e0, e1, e2, e3, e4, e5, e6], _, hgb =>
          obtain ⟨r0, r1, r2, r3, r4, r5, r6, rf⟩ := hgb.cells7
          go_wp2
          clear r0 r1 r2 r3 r4 r5 r6 rf
          obtain ⟨hq2, hfq⟩ := hgb.seven (a' := .string o.q.name) (b' := .int .u16 o.q.ty) (c' := .int .u16 o.q.cl) (d' := .slice o.ra o.rn o.rc) (e' := .int .i64 o.rcode) (f' := .int .i64 o.rank) (h' := .int .u64 o.expire) rfl
          exact ⟨FrT.set hfq hg1 hgb hq2 rfl, trivial, ⟨g, rfl, hg1, hq2⟩⟩
        · intro σ w' hR hd
          simp only [fill, Nat.reduceAdd, if_true, Bool.false_eq_true, if_false]
          obtain h27 : σ 27 = _ := hd 9 (by decide)
          rw [h27]
          clear h27
          clear hd
          go_wp2
          exact ⟨Fr.refl _ _, rfl⟩
      · intro σ w3 hR hG hH
        obtain h8 : σ 8 = _ := hG 12 (by decide)
        obtain ⟨g, h7, hg1, hgb⟩ : ∃ g, [σ 7] = [.pointer (some ⟨g, 0, none⟩)] ∧ w.heap.size + 1 ≤ g ∧ Blk w3 g 32 [.string o.q.name, .int .u16 o.q.ty, .int .u16 o.q.cl, .slice o.ra o.rn o.rc, .int .i64 o.rcode, .int .i64 o.rank, .int .u64 o.expire] := hH
        have h7 : σ 7 = .pointer (some ⟨g, 0, none⟩) := by simpa using h7
        simp only [fill, Nat.reduceAdd, if_true, Bool.false_eq_true, if_false, h8, h7]
        clear h8 h7
        clear hG
        have hF2 : Fr [] w w3 := hF.trans ((Fr.drew (Fr.refl [] w1)).trans (hR.fr (by simp; omega)))
        have hbx3 := hbx.frT hR (by simp) (.inl (by omega))
        obtain ⟨r0, r1, r2, r3, r4, r5, r6, rf⟩ := hgb.cells7
        obtain ⟨d0, d1, d2, d3, d4, d5, d6, df⟩ := hbx3.cells7
        go_wp2_with fail
        clear r0 r1 r2 r3 r4 r5 r6 rf d0 d1 d2 d3 d4 d5 d6 df
        refine (beats_calls o e now _).mono ?_
        rintro r w4 ⟨rfl, hF4⟩
        have hbx4 := hbx3.fr hF4 (by simp)
        have hF4 := hF2.trans hF4
        have hM4 := h.fr hF4 (by simp) (by simp)
        rcases hbt : beatsB o e now with _ | _
        · have hF5 : Fr [b] w w4 := hF4.mono (by simp)
          have hC := Hd.mk ((show (if beatsB o e now = true then (0 : Int) else 7) = 7 by rw [hbt]; rfl).symm.trans HC.out)
          clear hbt
          go_wp2
          go_ret
          have hC := hC.out
          subst hC
          have hLL := HLL.out
          rw [if_neg (by decide)] at hLL
          subst hLL
          exact ⟨rfl, hM4, hF5⟩
        · have hC := Hd.mk ((show (if beatsB o e now = true then (0 : Int) else 7) = 0 by rw [hbt]; rfl).symm.trans HC.out)
          clear hM4 hbt
          go_wp2_with fail
          refine wp_name ?_
          intro w4 hw4
          have hF4 : Fr [] w w4 := by rw [hw4]; exact hF4
          have hbx4 : Blk w4.drew w.heap.size 32 [.string e.q.name, .int .u16 e.q.ty, .int .u16 e.q.cl, .slice e.ra e.rn e.rc, .int .i64 e.rcode, .int .i64 e.rank, .int .u64 e.expire] := by rw [hw4]; exact hbx4
          clear hw4
          have h4 := h.fr hF4 (by simp) (by simp)
          have hbp := h.ne
          have hc4 : w4.drew.cell? ⟨p, 0, none⟩ = some (.map (some b)) := h4.cells.1
          have hmp4 := map_drew h4.map
          clear h4
          refine wp_region_gs { R := Fr [b], R1 := Fr [], gs := [Is (.pointer (some ⟨p, 0, none⟩)), Is (.pointer (some ⟨p, 0, none⟩)), Is (.pointer (some ⟨p, 0, none⟩)), Is (.map (some b)), Is (.pointer (some ⟨w.heap.size, 0, none⟩)), Is (.agg #[.string e.q.name, .int .u16 e.q.ty, .int .u16 e.q.cl]), Is (.agg #[.string e.q.name, .int .u16 e.q.ty, .int .u16 e.q.cl, .slice e.ra e.rn e.rc, .int .i64 e.rcode, .int .i64 e.rank, .int .u64 e.expire]), No], ds := [some 44, some 45, some 46, some 47, some 48, some 49, some 50, none], fl := [false, false, false, false, false, false, false, true], hs := [fun _ w2 => mapIs Qn.lit En.v Try.prog 28 w2 b (kv L), fun _ w2 => mapIs Qn.lit En.v Try.prog 28 w2 b (kv (putE L e))], hd := [[], []] } [false, false, false, false, false, false, false, false, false, false, false, false, false, false, false, false, false, false, false, false, false, false, false, false, false, false, false, false, false, false, false, false, false, false, false, false, false, false, false, false, false, false, false, false, true, true, true, true, true, true, true] (by kernel_rfl) _ (by kernel_rfl) (by kernel_rfl) (by kernel_rfl) (by kernel_rfl) rfl [] (fun _ _ _ h1 h2 => h1.trans h2) (fun _ _ h => h.mono (by simp)) (staI (staI (staI (staI (staI (staI (staI (staN sta0)))))))) (sth (fun _ _ _ hf h => map_fr h hf (by simp)) (sth (fun _ _ _ hf h => map_fr h hf (by simp)) sth0)) (fun _ _ h => h.size) _ (Fr.refl _ _) hmp4 ?_ ?_
          · refine ⟨?_, ?_, ?_, ?_, ?_, ?_, ?_, ?_, trivial⟩
            · intro σ w' hR hd
              simp only [fill, Nat.reduceAdd, if_true, Bool.false_eq_true, if_false]
              clear hd
              go_wp2
              exact ⟨Fr.refl _ _, rfl⟩
            · intro σ w' hR hd
              simp only [fill, Nat.reduceAdd, if_true, Bool.false_eq_true, if_false]
              obtain h44 : σ 44 = _ := hd 0 (by decide)
              rw [h44]
              clear h44
              clear hd
              go_wp2
              exact ⟨Fr.refl _ _, rfl⟩
            · intro σ w' hR hd
              simp only [fill, Nat.reduceAdd, if_true, Bool.false_eq_true, if_false]
              obtain h45 : σ 45 = _ := hd 1 (by decide)
              rw [h45]
              clear h45
              clear hd
              go_wp2
              exact ⟨Fr.refl _ _, rfl⟩
            · intro σ w' hR hd
              simp only [fill, Nat.reduceAdd, if_true, Bool.false_eq_true, if_false]
              obtain h46 : σ 46 = _ := hd 2 (by decide)
              rw [h46]
              clear h46
              clear hd
              have c3 := hR.cell (a := ⟨p, 0, none⟩) (v := .map (some b)) hc4 (by simpa using Ne.symm hbp)
              go_wp2
              exact ⟨Fr.refl _ _, rfl⟩
            · intro σ w' hR hd
              simp only [fill, Nat.reduceAdd, if_true, Bool.false_eq_true, if_false]
              clear hd
              go_wp2
              exact ⟨Fr.refl _ _, rfl⟩
            · intro σ w' hR hd
              simp only [fill, Nat.reduceAdd, if_true, Bool.false_eq_true, if_false]
              obtain h48 : σ 48 = _ := hd 4 (by decide)
              rw [h48]
              clear h48
              clear hd
              obtain ⟨d0, d1, d2, d3, d4, d5, d6, df⟩ := (hbx4.fr hR (by simp only [List.mem_singleton]; omega)).cells7
              go_wp2
              exact ⟨Fr.refl _ _, rfl⟩
            · intro σ w' hR hd
              simp only [fill, Nat.reduceAdd, if_true, Bool.false_eq_true, if_false]
              clear hd
              obtain ⟨d0, d1, d2, d3, d4, d5, d6, df⟩ := (hbx4.fr hR (by simp only [List.mem_singleton]; omega)).cells7
              go_wp2
              exact ⟨Fr.refl _ _, rfl⟩
            · intro σ w' hR hd hH
              simp only [fill, Nat.reduceAdd, if_true, Bool.false_eq_true, if_false]
              obtain h47 : σ 47 = _ := hd 3 (by decide)
              obtain h49 : σ 49 = _ := hd 5 (by decide)
              obtain h50 : σ 50 = _ := hd 6 (by decide)
              rw [h47, h49, h50]
              clear h47 h49 h50
              clear hd
              have hm5 : mapIs Qn.lit En.v Try.prog 28 w' b (kv L) := hH
              obtain ⟨w5, hrun, hm6, htn⟩ := hm5.update lit_inj kq Try.underlying59 (by rw [kv_len]; exact hL.out) (key_q e.q) (lit_key e.q) e
              clear hm5
              unfold Qn.v En.v at hrun
              rw [kv_put] at hm6
              go_wp2
              exact ⟨Fr.turned htn, trivial, hm6⟩
          · intro σ3 w3' hR' hG' hH'
            simp only [fill, Nat.reduceAdd, if_true, Bool.false_eq_true, if_false]
            clear hG'
            have hF5 : Fr [b] w w3' := (hF4.mono (by simp)).trans ((Fr.drew (Fr.refl [b] w4)).trans hR')
            have hM5 : MAt w3' p b room (putE L e) := ⟨h.blk.fr hF5 (by simpa using Ne.symm hbp), hH'⟩
            go_wp2
            go_ret
            have hC := hC.out
            subst hC
            have hLL := HLL.out
            rw [if_pos rfl] at hLL
            subst hLL
            exact ⟨rfl, hM5, hF5⟩
end Go.Proofs.Ytbmejolmbfmdiaa
