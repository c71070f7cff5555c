import Derived.Test.YtbmejolmbfmdiaaM3
namespace Go.Proofs.Ytbmejolmbfmdiaa
open Go Go.RowKit Go.Proofs.MapL

/-- What Lookup tells. -/
def lookB (L : List En) (q : Qn) (now : Int) : Bool := match findE L q with
  | some e => liveB e.expire now
  | none => false
def lookV (L : List En) (q : Qn) (now : Int) : Value := match findE L q with
  | some e => if liveB e.expire now then e.v else zeroEn
  | none => zeroEn
set_option maxRecDepth 100000 in
set_option maxHeartbeats 4000000 in
theorem lookup_calls {w : World} {p b : Nat} {room : Int} {L : List En} (h : MAt w p b room L) (q : Qn) (now : Int) : Calls Try.prog 27 #[.pointer (some ⟨p, 0, none⟩), q.v, .int .u64 now] w fun r w' => r = .returned (.tuple #[lookV L q now, .bool (lookB L q now)]) ∧ Fr [] w w' := by
  obtain ⟨X, hX⟩ : ∃ X, lookV L q now = X := ⟨_, rfl⟩
  obtain ⟨B, hB⟩ : ∃ B, lookB L q now = B := ⟨_, rfl⟩
  rw [hX, hB]
  unfold lookV at hX
  unfold lookB at hB
  unfold Qn.v
  rcases hf : findE L q with _ | e
  · rw [hf] at hX hB
    dsimp only at hX hB
    have HLK : Hd ((Value.tuple #[X, .bool B]) = .tuple #[zeroEn, .bool false]) := ⟨by rw [← hX, ← hB]⟩
    have HF0 := Hd.mk hf
    clear hf hX hB
    rcases hl : liveB 0 now with _ | _
    · have HL := Hd.mk hl
      clear hl
      go_enter Try.func27, Try.ntmps27
      go_wp2_with fail
      refine wp_name ?_
      intro w1 hw1
      have hF : Fr [] w w1 := by rw [hw1]; exact ((Fr.refl [] w).alloc _).alloc _
      have hbx : Blk w1.drew w.heap.size 28 q.c := by rw [hw1]; exact (Blk.new _ _ _).alloc _
      have hbz : Blk w1.drew (w.heap.size + 1) 32 [.string ⟨#[]⟩, .int .u16 0, .int .u16 0, .slice none 0 0, .int .i64 0, .int .i64 0, .int .u64 0] := by
        rw [hw1]
        have h0 := Blk.new (w.alloc (.cells #[.string q.name, .int .u16 q.ty, .int .u16 q.cl] 28)) 32 [.string ⟨#[]⟩, .int .u16 0, .int .u16 0, .slice none 0 0, .int .i64 0, .int .i64 0, .int .u64 0]
        simp only [World.size_alloc] at h0
        exact h0
      unfold Qn.c at hbx
      clear hw1
      have h1 : MAt w1.drew p b room L := h.fr hF.drew (by simp) (by simp)
      have hplt := h.plt
      have hblt := h.blt
      refine wp_region_gs { R := Fr [], R1 := Fr [], gs := [Is (.pointer (some ⟨p, 0, none⟩)), Is (.bool false), Is (.bool false), Is (.pointer (some ⟨p, 0, none⟩)), Is (.pointer (some ⟨p, 0, none⟩)), Is (.pointer (some ⟨p, 0, none⟩)), Is (.map (some b)), Is (.agg #[.string q.name, .int .u16 q.ty, .int .u16 q.cl]), Is (.agg #[.string ⟨#[]⟩, .int .u16 0, .int .u16 0, .slice none 0 0, .int .i64 0, .int .i64 0, .int .u64 0]), Is (.int .u64 0), Is (.int .u64 now), Is (.bool false), Is (.bool true), Is (.bool true), Is (.bool true), No, No, No, No, Is (.bool true)], ds := [some 8, some 9, some 10, some 11, some 12, some 13, some 14, some 15, some 16, some 17, some 18, some 19, some 20, some 21, some 22, some 23, some 24, some 25, some 26, some 27], fl := [false, false, false, false, false, false, false, false, false, false, false, false, false, false, false, false, false, false, false, false], hs := [], hd := [] } [false, false, false, false, false, false, false, false, true, true, true, true, true, true, true, true, true, true, true, true, true, true, true, true, true, true, true, true, false, false, false, false, false, false, false] (by kernel_rfl) _ (by kernel_rfl) (by kernel_rfl) (by kernel_rfl) (by kernel_rfl) rfl [] (fun _ _ _ h1 h2 => h1.trans h2) (fun _ _ h => h) (staI (staI (staI (staI (staI (staI (staI (staI (staI (staI (staI (staI (staI (staI (staI (staN (staN (staN (staN (staI sta0)))))))))))))))))))) sth0 (fun _ _ h => h.size) _ (Fr.refl _ _) trivial ?_ ?_
      · refine ⟨?_, ?_, ?_, ?_, ?_, ?_, ?_, ?_, ?_, ?_, ?_, ?_, ?_, ?_, ?_, ?_, ?_, ?_, ?_, ?_, trivial⟩
        · intro σ w' hR hd
          simp only [fill, Nat.reduceAdd, if_true, Bool.false_eq_true, if_false]
          clear hd
          go_wp2
          exact ⟨Fr.refl _ _, rfl⟩
        · intro σ w' hR hd
          simp only [fill, Nat.reduceAdd, if_true, Bool.false_eq_true, if_false]
          obtain h8 : σ 8 = _ := hd 0 (by decide)
          rw [h8]
          clear h8
          clear hd
          go_wp2
          exact ⟨Fr.refl _ _, rfl⟩
        · intro σ w' hR hd
          simp only [fill, Nat.reduceAdd, if_true, Bool.false_eq_true, if_false]
          obtain h9 : σ 9 = _ := hd 1 (by decide)
          rw [h9]
          clear h9
          clear hd
          go_wp2
          exact ⟨Fr.refl _ _, rfl⟩
        · intro σ w' hR hd
          simp only [fill, Nat.reduceAdd, if_true, Bool.false_eq_true, if_false]
          obtain h10 : σ 10 = _ := hd 2 (by decide)
          rw [h10]
          clear h10
          clear hd
          go_wp2
          exact ⟨Fr.refl _ _, rfl⟩
        · intro σ w' hR hd
          simp only [fill, Nat.reduceAdd, if_true, Bool.false_eq_true, if_false]
          obtain h10 : σ 10 = _ := hd 2 (by decide)
          obtain h11 : σ 11 = _ := hd 3 (by decide)
          rw [h10, h11]
          clear h10 h11
          clear hd
          go_wp2
          exact ⟨Fr.refl _ _, rfl⟩
        · intro σ w' hR hd
          simp only [fill, Nat.reduceAdd, if_true, Bool.false_eq_true, if_false]
          obtain h10 : σ 10 = _ := hd 2 (by decide)
          obtain h12 : σ 12 = _ := hd 4 (by decide)
          rw [h10, h12]
          clear h10 h12
          clear hd
          go_wp2
          exact ⟨Fr.refl _ _, rfl⟩
        · intro σ w' hR hd
          simp only [fill, Nat.reduceAdd, if_true, Bool.false_eq_true, if_false]
          obtain h10 : σ 10 = _ := hd 2 (by decide)
          obtain h13 : σ 13 = _ := hd 5 (by decide)
          rw [h10, h13]
          clear h10 h13
          clear hd
          obtain ⟨c0, c1⟩ := (h1.fr hR (by simp) (by simp)).cells
          go_wp2
          exact ⟨Fr.refl _ _, rfl⟩
        · intro σ w' hR hd
          simp only [fill, Nat.reduceAdd, if_true, Bool.false_eq_true, if_false]
          obtain h10 : σ 10 = _ := hd 2 (by decide)
          rw [h10]
          clear h10
          clear hd
          obtain ⟨d0, d1, d2, df⟩ := (hbx.fr hR (by simp)).cells3
          go_wp2
          exact ⟨Fr.refl _ _, rfl⟩
        · intro σ w' hR hd
          simp only [fill, Nat.reduceAdd, if_true, Bool.false_eq_true, if_false]
          obtain h10 : σ 10 = _ := hd 2 (by decide)
          obtain h14 : σ 14 = _ := hd 6 (by decide)
          obtain h15 : σ 15 = _ := hd 7 (by decide)
          rw [h10, h14, h15]
          clear h10 h14 h15
          clear hd
          have hm2 := map_fr h1.map hR (by simp)
          have hrun := hm2.look kq Try.underlying59 (zero35 w') (key_q q)
          rw [kv_find, HF0.out] at hrun
          simp only [Option.map_some, Option.map_none, Option.getD_some, Option.getD_none] at hrun
          unfold Qn.v at hrun
          go_wp2
          exact ⟨Fr.refl _ _, rfl⟩
        · intro σ w' hR hd
          simp only [fill, Nat.reduceAdd, if_true, Bool.false_eq_true, if_false]
          obtain h10 : σ 10 = _ := hd 2 (by decide)
          obtain h16 : σ 16 = _ := hd 8 (by decide)
          rw [h10, h16]
          clear h10 h16
          clear hd
          have hfd : ∀ w : World, (Instr.field 32 (.agg #[.string ⟨#[]⟩, .int .u16 0, .int .u16 0, .slice none 0 0, .int .i64 0, .int .i64 0, .int .u64 0]) 4).run Try.prog w = .ok (.int .u64 0) w := fun _ => by kernel_rfl
          go_wp2
          exact ⟨Fr.refl _ _, rfl⟩
        · intro σ w' hR hd
          simp only [fill, Nat.reduceAdd, if_true, Bool.false_eq_true, if_false]
          obtain h10 : σ 10 = _ := hd 2 (by decide)
          rw [h10]
          clear h10
          clear hd
          go_wp2
          exact ⟨Fr.refl _ _, rfl⟩
        · intro σ w' hR hd
          simp only [fill, Nat.reduceAdd, if_true, Bool.false_eq_true, if_false]
          obtain h10 : σ 10 = _ := hd 2 (by decide)
          obtain h17 : σ 17 = _ := hd 9 (by decide)
          obtain h18 : σ 18 = _ := hd 10 (by decide)
          rw [h10, h17, h18]
          clear h10 h17 h18
          clear hd
          go_wp2_with fail
          refine (live_calls _ _ _).mono ?_
          rintro r w4 ⟨rfl, rfl⟩
          rw [HL.out]
          go_wp2
          exact ⟨Fr.refl _ _, rfl⟩
        · intro σ w' hR hd
          simp only [fill, Nat.reduceAdd, if_true, Bool.false_eq_true, if_false]
          obtain h10 : σ 10 = _ := hd 2 (by decide)
          obtain h19 : σ 19 = _ := hd 11 (by decide)
          rw [h10, h19]
          clear h10 h19
          clear hd
          go_wp2
          exact ⟨Fr.refl _ _, rfl⟩
        · intro σ w' hR hd
          simp only [fill, Nat.reduceAdd, if_true, Bool.false_eq_true, if_false]
          obtain h10 : σ 10 = _ := hd 2 (by decide)
          obtain h20 : σ 20 = _ := hd 12 (by decide)
          rw [h10, h20]
          clear h10 h20
          clear hd
          go_wp2
          exact ⟨Fr.refl _ _, rfl⟩
        · intro σ w' hR hd
          simp only [fill, Nat.reduceAdd, if_true, Bool.false_eq_true, if_false]
          obtain h21 : σ 21 = _ := hd 13 (by decide)
          rw [h21]
          clear h21
          clear hd
          go_wp2
          exact ⟨Fr.refl _ _, rfl⟩
        · intro σ w' hR hd
          simp only [fill, Nat.reduceAdd, if_true, Bool.false_eq_true, if_false]
          obtain h22 : σ 22 = _ := hd 14 (by decide)
          rw [h22]
          clear h22
          clear hd
          go_wp2
          exact ⟨Fr.refl _ _, trivial⟩
        · intro σ w' hR hd
          simp only [fill, Nat.reduceAdd, if_true, Bool.false_eq_true, if_false]
          obtain h22 : σ 22 = _ := hd 14 (by decide)
          rw [h22]
          clear h22
          clear hd
          go_wp2
          exact ⟨Fr.refl _ _, trivial⟩
        · intro σ w' hR hd
          simp only [fill, Nat.reduceAdd, if_true, Bool.false_eq_true, if_false]
          obtain h22 : σ 22 = _ := hd 14 (by decide)
          rw [h22]
          clear h22
          clear hd
          go_wp2
          exact ⟨Fr.refl _ _, trivial⟩
        · intro σ w' hR hd
          simp only [fill, Nat.reduceAdd, if_true, Bool.false_eq_true, if_false]
          obtain h22 : σ 22 = _ := hd 14 (by decide)
          rw [h22]
          clear h22
          clear hd
          go_wp2
          exact ⟨Fr.refl _ _, trivial⟩
        · intro σ w' hR hd
          simp only [fill, Nat.reduceAdd, if_true, Bool.false_eq_true, if_false]
          obtain h22 : σ 22 = _ := hd 14 (by decide)
          rw [h22]
          clear h22
          clear hd
          go_wp2
          exact ⟨Fr.refl _ _, rfl⟩
      · intro σ w3 hR hG hH
        obtain h27 : σ 27 = _ := hG 19 (by decide)
        simp only [fill, Nat.reduceAdd, if_true, Bool.false_eq_true, if_false, h27]
        clear h27
        clear hG
        have hbz3 := hbz.fr hR (by simp)
        have hF3 : Fr [] w w3 := hF.drew.trans hR
        obtain ⟨r0, r1, r2, r3, r4, r5, r6, rf⟩ := hbz3.cells7
        go_wp2_with fail
        refine ret_name ?_; intro w5 hw5
        obtain ⟨h5, f5⟩ := Blk.seven hbz3 hw5
        clear r0 r1 r2 r3 r4 r5 r6 rf hw5
        obtain ⟨r0, r1, r2, r3, r4, r5, r6, -⟩ := h5.cells7
        refine bodyPost_ret (v := .tuple #[zeroEn, .bool false]) (by simp [results, Try.results27, go_sem, r0, r1, r2, r3, r4, r5, r6, zeroEn, ByteArray.empty, ByteArray.emptyWithCapacity]) rfl ⟨by rw [HLK.out], (hF3.weak f5 (by simp))⟩
    · have HL := Hd.mk hl
      clear hl
      go_enter Try.func27, Try.ntmps27
      go_wp2_with fail
      refine wp_name ?_
      intro w1 hw1
      have hF : Fr [] w w1 := by rw [hw1]; exact ((Fr.refl [] w).alloc _).alloc _
      have hbx : Blk w1.drew w.heap.size 28 q.c := by rw [hw1]; exact (Blk.new _ _ _).alloc _
      have hbz : Blk w1.drew (w.heap.size + 1) 32 [.string ⟨#[]⟩, .int .u16 0, .int .u16 0, .slice none 0 0, .int .i64 0, .int .i64 0, .int .u64 0] := by
        rw [hw1]
        have h0 := Blk.new (w.alloc (.cells #[.string q.name, .int .u16 q.ty, .int .u16 q.cl] 28)) 32 [.string ⟨#[]⟩, .int .u16 0, .int .u16 0, .slice none 0 0, .int .i64 0, .int .i64 0, .int .u64 0]
        simp only [World.size_alloc] at h0
        exact h0
      unfold Qn.c at hbx
      clear hw1
      have h1 : MAt w1.drew p b room L := h.fr hF.drew (by simp) (by simp)
      have hplt := h.plt
      have hblt := h.blt
      refine wp_region_gs { R := Fr [], R1 := Fr [], gs := [Is (.pointer (some ⟨p, 0, none⟩)), Is (.bool false), Is (.bool false), Is (.pointer (some ⟨p, 0, none⟩)), Is (.pointer (some ⟨p, 0, none⟩)), Is (.pointer (some ⟨p, 0, none⟩)), Is (.map (some b)), Is (.agg #[.string q.name, .int .u16 q.ty, .int .u16 q.cl]), Is (.agg #[.string ⟨#[]⟩, .int .u16 0, .int .u16 0, .slice none 0 0, .int .i64 0, .int .i64 0, .int .u64 0]), Is (.int .u64 0), Is (.int .u64 now), Is (.bool true), Is (.bool false), Is (.bool false), Is (.bool false), Is (.pointer (some ⟨p, 0, none⟩)), Is (.agg #[.string q.name, .int .u16 q.ty, .int .u16 q.cl]), Is (.bool false), Is (.bool true), Is (.bool true)], ds := [some 8, some 9, some 10, some 11, some 12, some 13, some 14, some 15, some 16, some 17, some 18, some 19, some 20, some 21, some 22, some 23, some 24, some 25, some 26, some 27], fl := [false, false, false, false, false, false, false, false, false, false, false, false, false, false, false, false, false, false, false, false], hs := [], hd := [] } [false, false, false, false, false, false, false, false, true, true, true, true, true, true, true, true, true, true, true, true, true, true, true, true, true, true, true, true, false, false, false, false, false, false, false] (by kernel_rfl) _ (by kernel_rfl) (by kernel_rfl) (by kernel_rfl) (by kernel_rfl) rfl [] (fun _ _ _ h1 h2 => h1.trans h2) (fun _ _ h => h) (staI (staI (staI (staI (staI (staI (staI (staI (staI (staI (staI (staI (staI (staI (staI (staI (staI (staI (staI (staI sta0)))))))))))))))))))) sth0 (fun _ _ h => h.size) _ (Fr.refl _ _) trivial ?_ ?_
      · refine ⟨?_, ?_, ?_, ?_, ?_, ?_, ?_, ?_, ?_, ?_, ?_, ?_, ?_, ?_, ?_, ?_, ?_, ?_, ?_, ?_, trivial⟩
        · intro σ w' hR hd
          simp only [fill, Nat.reduceAdd, if_true, Bool.false_eq_true, if_false]
          clear hd
          go_wp2
          exact ⟨Fr.refl _ _, rfl⟩
        · intro σ w' hR hd
          simp only [fill, Nat.reduceAdd, if_true, Bool.false_eq_true, if_false]
          obtain h8 : σ 8 = _ := hd 0 (by decide)
          rw [h8]
          clear h8
          clear hd
          go_wp2
          exact ⟨Fr.refl _ _, rfl⟩
        · intro σ w' hR hd
          simp only [fill, Nat.reduceAdd, if_true, Bool.false_eq_true, if_false]
          obtain h9 : σ 9 = _ := hd 1 (by decide)
          rw [h9]
          clear h9
          clear hd
          go_wp2
          exact ⟨Fr.refl _ _, rfl⟩
        · intro σ w' hR hd
          simp only [fill, Nat.reduceAdd, if_true, Bool.false_eq_true, if_false]
          obtain h10 : σ 10 = _ := hd 2 (by decide)
          rw [h10]
          clear h10
          clear hd
          go_wp2
          exact ⟨Fr.refl _ _, rfl⟩
        · intro σ w' hR hd
          simp only [fill, Nat.reduceAdd, if_true, Bool.false_eq_true, if_false]
          obtain h10 : σ 10 = _ := hd 2 (by decide)
          obtain h11 : σ 11 = _ := hd 3 (by decide)
          rw [h10, h11]
          clear h10 h11
          clear hd
          go_wp2
          exact ⟨Fr.refl _ _, rfl⟩
        · intro σ w' hR hd
          simp only [fill, Nat.reduceAdd, if_true, Bool.false_eq_true, if_false]
          obtain h10 : σ 10 = _ := hd 2 (by decide)
          obtain h12 : σ 12 = _ := hd 4 (by decide)
          rw [h10, h12]
          clear h10 h12
          clear hd
          go_wp2
          exact ⟨Fr.refl _ _, rfl⟩
        · intro σ w' hR hd
          simp only [fill, Nat.reduceAdd, if_true, Bool.false_eq_true, if_false]
          obtain h10 : σ 10 = _ := hd 2 (by decide)
          obtain h13 : σ 13 = _ := hd 5 (by decide)
          rw [h10, h13]
          clear h10 h13
          clear hd
          obtain ⟨c0, c1⟩ := (h1.fr hR (by simp) (by simp)).cells
          go_wp2
          exact ⟨Fr.refl _ _, rfl⟩
        · intro σ w' hR hd
          simp only [fill, Nat.reduceAdd, if_true, Bool.false_eq_true, if_false]
          obtain h10 : σ 10 = _ := hd 2 (by decide)
          rw [h10]
          clear h10
          clear hd
          obtain ⟨d0, d1, d2, df⟩ := (hbx.fr hR (by simp)).cells3
          go_wp2
          exact ⟨Fr.refl _ _, rfl⟩
        · intro σ w' hR hd
          simp only [fill, Nat.reduceAdd, if_true, Bool.false_eq_true, if_false]
          obtain h10 : σ 10 = _ := hd 2 (by decide)
          obtain h14 : σ 14 = _ := hd 6 (by decide)
          obtain h15 : σ 15 = _ := hd 7 (by decide)
          rw [h10, h14, h15]
          clear h10 h14 h15
          clear hd
          have hm2 := map_fr h1.map hR (by simp)
          have hrun := hm2.look kq Try.underlying59 (zero35 w') (key_q q)
          rw [kv_find, HF0.out] at hrun
          simp only [Option.map_some, Option.map_none, Option.getD_some, Option.getD_none] at hrun
          unfold Qn.v at hrun
          go_wp2
          exact ⟨Fr.refl _ _, rfl⟩
        · intro σ w' hR hd
          simp only [fill, Nat.reduceAdd, if_true, Bool.false_eq_true, if_false]
          obtain h10 : σ 10 = _ := hd 2 (by decide)
          obtain h16 : σ 16 = _ := hd 8 (by decide)
          rw [h10, h16]
          clear h10 h16
          clear hd
          have hfd : ∀ w : World, (Instr.field 32 (.agg #[.string ⟨#[]⟩, .int .u16 0, .int .u16 0, .slice none 0 0, .int .i64 0, .int .i64 0, .int .u64 0]) 4).run Try.prog w = .ok (.int .u64 0) w := fun _ => by kernel_rfl
          go_wp2
          exact ⟨Fr.refl _ _, rfl⟩
        · intro σ w' hR hd
          simp only [fill, Nat.reduceAdd, if_true, Bool.false_eq_true, if_false]
          obtain h10 : σ 10 = _ := hd 2 (by decide)
          rw [h10]
          clear h10
          clear hd
          go_wp2
          exact ⟨Fr.refl _ _, rfl⟩
        · intro σ w' hR hd
          simp only [fill, Nat.reduceAdd, if_true, Bool.false_eq_true, if_false]
          obtain h10 : σ 10 = _ := hd 2 (by decide)
          obtain h17 : σ 17 = _ := hd 9 (by decide)
          obtain h18 : σ 18 = _ := hd 10 (by decide)
          rw [h10, h17, h18]
          clear h10 h17 h18
          clear hd
          go_wp2_with fail
          refine (live_calls _ _ _).mono ?_
          rintro r w4 ⟨rfl, rfl⟩
          rw [HL.out]
          go_wp2
          exact ⟨Fr.refl _ _, rfl⟩
        · intro σ w' hR hd
          simp only [fill, Nat.reduceAdd, if_true, Bool.false_eq_true, if_false]
          obtain h10 : σ 10 = _ := hd 2 (by decide)
          obtain h19 : σ 19 = _ := hd 11 (by decide)
          rw [h10, h19]
          clear h10 h19
          clear hd
          go_wp2
          exact ⟨Fr.refl _ _, rfl⟩
        · intro σ w' hR hd
          simp only [fill, Nat.reduceAdd, if_true, Bool.false_eq_true, if_false]
          obtain h10 : σ 10 = _ := hd 2 (by decide)
          obtain h20 : σ 20 = _ := hd 12 (by decide)
          rw [h10, h20]
          clear h10 h20
          clear hd
          go_wp2
          exact ⟨Fr.refl _ _, rfl⟩
        · intro σ w' hR hd
          simp only [fill, Nat.reduceAdd, if_true, Bool.false_eq_true, if_false]
          obtain h21 : σ 21 = _ := hd 13 (by decide)
          rw [h21]
          clear h21
          clear hd
          go_wp2
          exact ⟨Fr.refl _ _, rfl⟩
        · intro σ w' hR hd
          simp only [fill, Nat.reduceAdd, if_true, Bool.false_eq_true, if_false]
          obtain h22 : σ 22 = _ := hd 14 (by decide)
          rw [h22]
          clear h22
          clear hd
          go_wp2
          exact ⟨Fr.refl _ _, rfl⟩
        · intro σ w' hR hd
          simp only [fill, Nat.reduceAdd, if_true, Bool.false_eq_true, if_false]
          obtain h22 : σ 22 = _ := hd 14 (by decide)
          rw [h22]
          clear h22
          clear hd
          obtain ⟨d0, d1, d2, df⟩ := (hbx.fr hR (by simp)).cells3
          go_wp2
          exact ⟨Fr.refl _ _, rfl⟩
        · intro σ w' hR hd
          simp only [fill, Nat.reduceAdd, if_true, Bool.false_eq_true, if_false]
          obtain h22 : σ 22 = _ := hd 14 (by decide)
          obtain h23 : σ 23 = _ := hd 15 (by decide)
          obtain h24 : σ 24 = _ := hd 16 (by decide)
          rw [h22, h23, h24]
          clear h22 h23 h24
          clear hd
          have hm4 := h1.fr hR (by simp) (by simp)
          go_wp2_with fail
          refine (has_calls hm4 q).mono ?_
          rintro r w4 ⟨rfl, hf0⟩
          have hf4 := Hd.mk hf0
          clear hf0
          rw [HF0.out]
          go_wp2
          exact ⟨hf4.out, rfl⟩
        · intro σ w' hR hd
          simp only [fill, Nat.reduceAdd, if_true, Bool.false_eq_true, if_false]
          obtain h22 : σ 22 = _ := hd 14 (by decide)
          obtain h25 : σ 25 = _ := hd 17 (by decide)
          rw [h22, h25]
          clear h22 h25
          clear hd
          go_wp2
          exact ⟨Fr.refl _ _, rfl⟩
        · intro σ w' hR hd
          simp only [fill, Nat.reduceAdd, if_true, Bool.false_eq_true, if_false]
          obtain h22 : σ 22 = _ := hd 14 (by decide)
          obtain h26 : σ 26 = _ := hd 18 (by decide)
          rw [h22, h26]
          clear h22 h26
          clear hd
          go_wp2
          exact ⟨Fr.refl _ _, rfl⟩
      · intro σ w3 hR hG hH
        obtain h27 : σ 27 = _ := hG 19 (by decide)
        simp only [fill, Nat.reduceAdd, if_true, Bool.false_eq_true, if_false, h27]
        clear h27
        clear hG
        have hbz3 := hbz.fr hR (by simp)
        have hF3 : Fr [] w w3 := hF.drew.trans hR
        obtain ⟨r0, r1, r2, r3, r4, r5, r6, rf⟩ := hbz3.cells7
        go_wp2_with fail
        refine ret_name ?_; intro w5 hw5
        obtain ⟨h5, f5⟩ := Blk.seven hbz3 hw5
        clear r0 r1 r2 r3 r4 r5 r6 rf hw5
        obtain ⟨r0, r1, r2, r3, r4, r5, r6, -⟩ := h5.cells7
        refine bodyPost_ret (v := .tuple #[zeroEn, .bool false]) (by simp [results, Try.results27, go_sem, r0, r1, r2, r3, r4, r5, r6, zeroEn, ByteArray.empty, ByteArray.emptyWithCapacity]) rfl ⟨by rw [HLK.out], (hF3.weak f5 (by simp))⟩
  · rw [hf] at hX hB
    dsimp only at hX hB
    have HF0 := Hd.mk hf
    clear hf
    rcases hl : liveB e.expire now with _ | _
    · have HL := Hd.mk hl
      rw [hl] at hX hB
      have HLK : Hd ((Value.tuple #[X, .bool B]) = .tuple #[zeroEn, .bool false]) := ⟨by rw [← hX, ← hB]; rfl⟩
      clear hl hX hB
      go_enter Try.func27, Try.ntmps27
      go_wp2_with fail
      refine wp_name ?_
      intro w1 hw1
      have hF : Fr [] w w1 := by rw [hw1]; exact ((Fr.refl [] w).alloc _).alloc _
      have hbx : Blk w1.drew w.heap.size 28 q.c := by rw [hw1]; exact (Blk.new _ _ _).alloc _
      have hbz : Blk w1.drew (w.heap.size + 1) 32 [.string ⟨#[]⟩, .int .u16 0, .int .u16 0, .slice none 0 0, .int .i64 0, .int .i64 0, .int .u64 0] := by
        rw [hw1]
        have h0 := Blk.new (w.alloc (.cells #[.string q.name, .int .u16 q.ty, .int .u16 q.cl] 28)) 32 [.string ⟨#[]⟩, .int .u16 0, .int .u16 0, .slice none 0 0, .int .i64 0, .int .i64 0, .int .u64 0]
        simp only [World.size_alloc] at h0
        exact h0
      unfold Qn.c at hbx
      clear hw1
      have h1 : MAt w1.drew p b room L := h.fr hF.drew (by simp) (by simp)
      have hplt := h.plt
      have hblt := h.blt
      refine wp_region_gs { R := Fr [], R1 := Fr [], gs := [Is (.pointer (some ⟨p, 0, none⟩)), Is (.bool false), Is (.bool false), Is (.pointer (some ⟨p, 0, none⟩)), Is (.pointer (some ⟨p, 0, none⟩)), Is (.pointer (some ⟨p, 0, none⟩)), Is (.map (some b)), Is (.agg #[.string q.name, .int .u16 q.ty, .int .u16 q.cl]), Is (.agg #[.string e.q.name, .int .u16 e.q.ty, .int .u16 e.q.cl, .slice e.ra e.rn e.rc, .int .i64 e.rcode, .int .i64 e.rank, .int .u64 e.expire]), Is (.int .u64 e.expire), Is (.int .u64 now), Is (.bool false), Is (.bool true), Is (.bool true), Is (.bool true), No, No, No, No, Is (.bool true)], ds := [some 8, some 9, some 10, some 11, some 12, some 13, some 14, some 15, some 16, some 17, some 18, some 19, some 20, some 21, some 22, some 23, some 24, some 25, some 26, some 27], fl := [false, false, false, false, false, false, false, false, false, false, false, false, false, false, false, false, false, false, false, false], hs := [], hd := [] } [false, false, false, false, false, false, false, false, true, true, true, true, true, true, true, true, true, true, true, true, true, true, true, true, true, true, true, true, false, false, false, false, false, false, false] (by kernel_rfl) _ (by kernel_rfl) (by kernel_rfl) (by kernel_rfl) (by kernel_rfl) rfl [] (fun _ _ _ h1 h2 => h1.trans h2) (fun _ _ h => h) (staI (staI (staI (staI (staI (staI (staI (staI (staI (staI (staI (staI (staI (staI (staI (staN (staN (staN (staN (staI sta0)))))))))))))))))))) sth0 (fun _ _ h => h.size) _ (Fr.refl _ _) trivial ?_ ?_
      · refine ⟨?_, ?_, ?_, ?_, ?_, ?_, ?_, ?_, ?_, ?_, ?_, ?_, ?_, ?_, ?_, ?_, ?_, ?_, ?_, ?_, trivial⟩
        · intro σ w' hR hd
          simp only [fill, Nat.reduceAdd, if_true, Bool.false_eq_true, if_false]
          clear hd
          go_wp2
          exact ⟨Fr.refl _ _, rfl⟩
        · intro σ w' hR hd
          simp only [fill, Nat.reduceAdd, if_true, Bool.false_eq_true, if_false]
          obtain h8 : σ 8 = _ := hd 0 (by decide)
          rw [h8]
          clear h8
          clear hd
          go_wp2
          exact ⟨Fr.refl _ _, rfl⟩
        · intro σ w' hR hd
          simp only [fill, Nat.reduceAdd, if_true, Bool.false_eq_true, if_false]
          obtain h9 : σ 9 = _ := hd 1 (by decide)
          rw [h9]
          clear h9
          clear hd
          go_wp2
          exact ⟨Fr.refl _ _, rfl⟩
        · intro σ w' hR hd
          simp only [fill, Nat.reduceAdd, if_true, Bool.false_eq_true, if_false]
          obtain h10 : σ 10 = _ := hd 2 (by decide)
          rw [h10]
          clear h10
          clear hd
          go_wp2
          exact ⟨Fr.refl _ _, rfl⟩
        · intro σ w' hR hd
          simp only [fill, Nat.reduceAdd, if_true, Bool.false_eq_true, if_false]
          obtain h10 : σ 10 = _ := hd 2 (by decide)
          obtain h11 : σ 11 = _ := hd 3 (by decide)
          rw [h10, h11]
          clear h10 h11
          clear hd
          go_wp2
          exact ⟨Fr.refl _ _, rfl⟩
        · intro σ w' hR hd
          simp only [fill, Nat.reduceAdd, if_true, Bool.false_eq_true, if_false]
          obtain h10 : σ 10 = _ := hd 2 (by decide)
          obtain h12 : σ 12 = _ := hd 4 (by decide)
          rw [h10, h12]
          clear h10 h12
          clear hd
          go_wp2
          exact ⟨Fr.refl _ _, rfl⟩
        · intro σ w' hR hd
          simp only [fill, Nat.reduceAdd, if_true, Bool.false_eq_true, if_false]
          obtain h10 : σ 10 = _ := hd 2 (by decide)
          obtain h13 : σ 13 = _ := hd 5 (by decide)
          rw [h10, h13]
          clear h10 h13
          clear hd
          obtain ⟨c0, c1⟩ := (h1.fr hR (by simp) (by simp)).cells
          go_wp2
          exact ⟨Fr.refl _ _, rfl⟩
        · intro σ w' hR hd
          simp only [fill, Nat.reduceAdd, if_true, Bool.false_eq_true, if_false]
          obtain h10 : σ 10 = _ := hd 2 (by decide)
          rw [h10]
          clear h10
          clear hd
          obtain ⟨d0, d1, d2, df⟩ := (hbx.fr hR (by simp)).cells3
          go_wp2
          exact ⟨Fr.refl _ _, rfl⟩
        · intro σ w' hR hd
          simp only [fill, Nat.reduceAdd, if_true, Bool.false_eq_true, if_false]
          obtain h10 : σ 10 = _ := hd 2 (by decide)
          obtain h14 : σ 14 = _ := hd 6 (by decide)
          obtain h15 : σ 15 = _ := hd 7 (by decide)
          rw [h10, h14, h15]
          clear h10 h14 h15
          clear hd
          have hm2 := map_fr h1.map hR (by simp)
          have hrun := hm2.look kq Try.underlying59 (zero35 w') (key_q q)
          rw [kv_find, HF0.out] at hrun
          simp only [Option.map_some, Option.map_none, Option.getD_some, Option.getD_none] at hrun
          unfold Qn.v at hrun
          go_wp2
          exact ⟨Fr.refl _ _, rfl⟩
        · intro σ w' hR hd
          simp only [fill, Nat.reduceAdd, if_true, Bool.false_eq_true, if_false]
          obtain h10 : σ 10 = _ := hd 2 (by decide)
          obtain h16 : σ 16 = _ := hd 8 (by decide)
          rw [h10, h16]
          clear h10 h16
          clear hd
          have hfd : ∀ w : World, (Instr.field 32 (.agg #[.string e.q.name, .int .u16 e.q.ty, .int .u16 e.q.cl, .slice e.ra e.rn e.rc, .int .i64 e.rcode, .int .i64 e.rank, .int .u64 e.expire]) 4).run Try.prog w = .ok (.int .u64 e.expire) w := fun _ => by kernel_rfl
          go_wp2
          exact ⟨Fr.refl _ _, rfl⟩
        · intro σ w' hR hd
          simp only [fill, Nat.reduceAdd, if_true, Bool.false_eq_true, if_false]
          obtain h10 : σ 10 = _ := hd 2 (by decide)
          rw [h10]
          clear h10
          clear hd
          go_wp2
          exact ⟨Fr.refl _ _, rfl⟩
        · intro σ w' hR hd
          simp only [fill, Nat.reduceAdd, if_true, Bool.false_eq_true, if_false]
          obtain h10 : σ 10 = _ := hd 2 (by decide)
          obtain h17 : σ 17 = _ := hd 9 (by decide)
          obtain h18 : σ 18 = _ := hd 10 (by decide)
          rw [h10, h17, h18]
          clear h10 h17 h18
          clear hd
          go_wp2_with fail
          refine (live_calls _ _ _).mono ?_
          rintro r w4 ⟨rfl, rfl⟩
          rw [HL.out]
          go_wp2
          exact ⟨Fr.refl _ _, rfl⟩
        · intro σ w' hR hd
          simp only [fill, Nat.reduceAdd, if_true, Bool.false_eq_true, if_false]
          obtain h10 : σ 10 = _ := hd 2 (by decide)
          obtain h19 : σ 19 = _ := hd 11 (by decide)
          rw [h10, h19]
          clear h10 h19
          clear hd
          go_wp2
          exact ⟨Fr.refl _ _, rfl⟩
        · intro σ w' hR hd
          simp only [fill, Nat.reduceAdd, if_true, Bool.false_eq_true, if_false]
          obtain h10 : σ 10 = _ := hd 2 (by decide)
          obtain h20 : σ 20 = _ := hd 12 (by decide)
          rw [h10, h20]
          clear h10 h20
          clear hd
          go_wp2
          exact ⟨Fr.refl _ _, rfl⟩
        · intro σ w' hR hd
          simp only [fill, Nat.reduceAdd, if_true, Bool.false_eq_true, if_false]
          obtain h21 : σ 21 = _ := hd 13 (by decide)
          rw [h21]
          clear h21
          clear hd
          go_wp2
          exact ⟨Fr.refl _ _, rfl⟩
        · intro σ w' hR hd
          simp only [fill, Nat.reduceAdd, if_true, Bool.false_eq_true, if_false]
          obtain h22 : σ 22 = _ := hd 14 (by decide)
          rw [h22]
          clear h22
          clear hd
          go_wp2
          exact ⟨Fr.refl _ _, trivial⟩
        · intro σ w' hR hd
          simp only [fill, Nat.reduceAdd, if_true, Bool.false_eq_true, if_false]
          obtain h22 : σ 22 = _ := hd 14 (by decide)
          rw [h22]
          clear h22
          clear hd
          go_wp2
          exact ⟨Fr.refl _ _, trivial⟩
        · intro σ w' hR hd
          simp only [fill, Nat.reduceAdd, if_true, Bool.false_eq_true, if_false]
          obtain h22 : σ 22 = _ := hd 14 (by decide)
          rw [h22]
          clear h22
          clear hd
          go_wp2
          exact ⟨Fr.refl _ _, trivial⟩
        · intro σ w' hR hd
          simp only [fill, Nat.reduceAdd, if_true, Bool.false_eq_true, if_false]
          obtain h22 : σ 22 = _ := hd 14 (by decide)
          rw [h22]
          clear h22
          clear hd
          go_wp2
          exact ⟨Fr.refl _ _, trivial⟩
        · intro σ w' hR hd
          simp only [fill, Nat.reduceAdd, if_true, Bool.false_eq_true, if_false]
          obtain h22 : σ 22 = _ := hd 14 (by decide)
          rw [h22]
          clear h22
          clear hd
          go_wp2
          exact ⟨Fr.refl _ _, rfl⟩
      · intro σ w3 hR hG hH
        obtain h27 : σ 27 = _ := hG 19 (by decide)
        simp only [fill, Nat.reduceAdd, if_true, Bool.false_eq_true, if_false, h27]
        clear h27
        clear hG
        have hbz3 := hbz.fr hR (by simp)
        have hF3 : Fr [] w w3 := hF.drew.trans hR
        obtain ⟨r0, r1, r2, r3, r4, r5, r6, rf⟩ := hbz3.cells7
        go_wp2_with fail
        refine ret_name ?_; intro w5 hw5
        obtain ⟨h5, f5⟩ := Blk.seven hbz3 hw5
        clear r0 r1 r2 r3 r4 r5 r6 rf hw5
        obtain ⟨r0, r1, r2, r3, r4, r5, r6, -⟩ := h5.cells7
        refine bodyPost_ret (v := .tuple #[zeroEn, .bool false]) (by simp [results, Try.results27, go_sem, r0, r1, r2, r3, r4, r5, r6, zeroEn, ByteArray.empty, ByteArray.emptyWithCapacity]) rfl ⟨by rw [HLK.out], (hF3.weak f5 (by simp))⟩
    · have HL := Hd.mk hl
      rw [hl] at hX hB
      have HLK : Hd ((Value.tuple #[X, .bool B]) = .tuple #[e.v, .bool true]) := ⟨by rw [← hX, ← hB]; rfl⟩
      clear hl hX hB
      go_enter Try.func27, Try.ntmps27
      go_wp2_with fail
      refine wp_name ?_
      intro w1 hw1
      have hF : Fr [] w w1 := by rw [hw1]; exact ((Fr.refl [] w).alloc _).alloc _
      have hbx : Blk w1.drew w.heap.size 28 q.c := by rw [hw1]; exact (Blk.new _ _ _).alloc _
      have hbz : Blk w1.drew (w.heap.size + 1) 32 [.string ⟨#[]⟩, .int .u16 0, .int .u16 0, .slice none 0 0, .int .i64 0, .int .i64 0, .int .u64 0] := by
        rw [hw1]
        have h0 := Blk.new (w.alloc (.cells #[.string q.name, .int .u16 q.ty, .int .u16 q.cl] 28)) 32 [.string ⟨#[]⟩, .int .u16 0, .int .u16 0, .slice none 0 0, .int .i64 0, .int .i64 0, .int .u64 0]
        simp only [World.size_alloc] at h0
        exact h0
      unfold Qn.c at hbx
      clear hw1
      have h1 : MAt w1.drew p b room L := h.fr hF.drew (by simp) (by simp)
      have hplt := h.plt
      have hblt := h.blt
      refine wp_region_gs { R := Fr [], R1 := Fr [], gs := [Is (.pointer (some ⟨p, 0, none⟩)), Is (.bool false), Is (.bool false), Is (.pointer (some ⟨p, 0, none⟩)), Is (.pointer (some ⟨p, 0, none⟩)), Is (.pointer (some ⟨p, 0, none⟩)), Is (.map (some b)), Is (.agg #[.string q.name, .int .u16 q.ty, .int .u16 q.cl]), Is (.agg #[.string e.q.name, .int .u16 e.q.ty, .int .u16 e.q.cl, .slice e.ra e.rn e.rc, .int .i64 e.rcode, .int .i64 e.rank, .int .u64 e.expire]), Is (.int .u64 e.expire), Is (.int .u64 now), Is (.bool true), Is (.bool false), Is (.bool false), Is (.bool false), Is (.pointer (some ⟨p, 0, none⟩)), Is (.agg #[.string q.name, .int .u16 q.ty, .int .u16 q.cl]), Is (.bool true), Is (.bool false), Is (.bool false)], ds := [some 8, some 9, some 10, some 11, some 12, some 13, some 14, some 15, some 16, some 17, some 18, some 19, some 20, some 21, some 22, some 23, some 24, some 25, some 26, some 27], fl := [false, false, false, false, false, false, false, false, false, false, false, false, false, false, false, false, false, false, false, false], hs := [], hd := [] } [false, false, false, false, false, false, false, false, true, true, true, true, true, true, true, true, true, true, true, true, true, true, true, true, true, true, true, true, false, false, false, false, false, false, false] (by kernel_rfl) _ (by kernel_rfl) (by kernel_rfl) (by kernel_rfl) (by kernel_rfl) rfl [] (fun _ _ _ h1 h2 => h1.trans h2) (fun _ _ h => h) (staI (staI (staI (staI (staI (staI (staI (staI (staI (staI (staI (staI (staI (staI (staI (staI (staI (staI (staI (staI sta0)))))))))))))))))))) sth0 (fun _ _ h => h.size) _ (Fr.refl _ _) trivial ?_ ?_
      · refine ⟨?_, ?_, ?_, ?_, ?_, ?_, ?_, ?_, ?_, ?_, ?_, ?_, ?_, ?_, ?_, ?_, ?_, ?_, ?_, ?_, trivial⟩
        · intro σ w' hR hd
          simp only [fill, Nat.reduceAdd, if_true, Bool.false_eq_true, if_false]
          clear hd
          go_wp2
          exact ⟨Fr.refl _ _, rfl⟩
        · intro σ w' hR hd
          simp only [fill, Nat.reduceAdd, if_true, Bool.false_eq_true, if_false]
          obtain h8 : σ 8 = _ := hd 0 (by decide)
          rw [h8]
          clear h8
          clear hd
          go_wp2
          exact ⟨Fr.refl _ _, rfl⟩
        · intro σ w' hR hd
          simp only [fill, Nat.reduceAdd, if_true, Bool.false_eq_true, if_false]
          obtain h9 : σ 9 = _ := hd 1 (by decide)
          rw [h9]
          clear h9
          clear hd
          go_wp2
          exact ⟨Fr.refl _ _, rfl⟩
        · intro σ w' hR hd
          simp only [fill, Nat.reduceAdd, if_true, Bool.false_eq_true, if_false]
          obtain h10 : σ 10 = _ := hd 2 (by decide)
          rw [h10]
          clear h10
          clear hd
          go_wp2
          exact ⟨Fr.refl _ _, rfl⟩
        · intro σ w' hR hd
          simp only [fill, Nat.reduceAdd, if_true, Bool.false_eq_true, if_false]
          obtain h10 : σ 10 = _ := hd 2 (by decide)
          obtain h11 : σ 11 = _ := hd 3 (by decide)
          rw [h10, h11]
          clear h10 h11
          clear hd
          go_wp2
          exact ⟨Fr.refl _ _, rfl⟩
        · intro σ w' hR hd
          simp only [fill, Nat.reduceAdd, if_true, Bool.false_eq_true, if_false]
          obtain h10 : σ 10 = _ := hd 2 (by decide)
          obtain h12 : σ 12 = _ := hd 4 (by decide)
          rw [h10, h12]
          clear h10 h12
          clear hd
          go_wp2
          exact ⟨Fr.refl _ _, rfl⟩
        · intro σ w' hR hd
          simp only [fill, Nat.reduceAdd, if_true, Bool.false_eq_true, if_false]
          obtain h10 : σ 10 = _ := hd 2 (by decide)
          obtain h13 : σ 13 = _ := hd 5 (by decide)
          rw [h10, h13]
          clear h10 h13
          clear hd
          obtain ⟨c0, c1⟩ := (h1.fr hR (by simp) (by simp)).cells
          go_wp2
          exact ⟨Fr.refl _ _, rfl⟩
        · intro σ w' hR hd
          simp only [fill, Nat.reduceAdd, if_true, Bool.false_eq_true, if_false]
          obtain h10 : σ 10 = _ := hd 2 (by decide)
          rw [h10]
          clear h10
          clear hd
          obtain ⟨d0, d1, d2, df⟩ := (hbx.fr hR (by simp)).cells3
          go_wp2
          exact ⟨Fr.refl _ _, rfl⟩
        · intro σ w' hR hd
          simp only [fill, Nat.reduceAdd, if_true, Bool.false_eq_true, if_false]
          obtain h10 : σ 10 = _ := hd 2 (by decide)
          obtain h14 : σ 14 = _ := hd 6 (by decide)
          obtain h15 : σ 15 = _ := hd 7 (by decide)
          rw [h10, h14, h15]
          clear h10 h14 h15
          clear hd
          have hm2 := map_fr h1.map hR (by simp)
          have hrun := hm2.look kq Try.underlying59 (zero35 w') (key_q q)
          rw [kv_find, HF0.out] at hrun
          simp only [Option.map_some, Option.map_none, Option.getD_some, Option.getD_none] at hrun
          unfold Qn.v at hrun
          go_wp2
          exact ⟨Fr.refl _ _, rfl⟩
        · intro σ w' hR hd
          simp only [fill, Nat.reduceAdd, if_true, Bool.false_eq_true, if_false]
          obtain h10 : σ 10 = _ := hd 2 (by decide)
          obtain h16 : σ 16 = _ := hd 8 (by decide)
          rw [h10, h16]
          clear h10 h16
          clear hd
          have hfd : ∀ w : World, (Instr.field 32 (.agg #[.string e.q.name, .int .u16 e.q.ty, .int .u16 e.q.cl, .slice e.ra e.rn e.rc, .int .i64 e.rcode, .int .i64 e.rank, .int .u64 e.expire]) 4).run Try.prog w = .ok (.int .u64 e.expire) w := fun _ => by kernel_rfl
          go_wp2
          exact ⟨Fr.refl _ _, rfl⟩
        · intro σ w' hR hd
          simp only [fill, Nat.reduceAdd, if_true, Bool.false_eq_true, if_false]
          obtain h10 : σ 10 = _ := hd 2 (by decide)
          rw [h10]
          clear h10
          clear hd
          go_wp2
          exact ⟨Fr.refl _ _, rfl⟩
        · intro σ w' hR hd
          simp only [fill, Nat.reduceAdd, if_true, Bool.false_eq_true, if_false]
          obtain h10 : σ 10 = _ := hd 2 (by decide)
          obtain h17 : σ 17 = _ := hd 9 (by decide)
          obtain h18 : σ 18 = _ := hd 10 (by decide)
          rw [h10, h17, h18]
          clear h10 h17 h18
          clear hd
          go_wp2_with fail
          refine (live_calls _ _ _).mono ?_
          rintro r w4 ⟨rfl, rfl⟩
          rw [HL.out]
          go_wp2
          exact ⟨Fr.refl _ _, rfl⟩
        · intro σ w' hR hd
          simp only [fill, Nat.reduceAdd, if_true, Bool.false_eq_true, if_false]
          obtain h10 : σ 10 = _ := hd 2 (by decide)
          obtain h19 : σ 19 = _ := hd 11 (by decide)
          rw [h10, h19]
          clear h10 h19
          clear hd
          go_wp2
          exact ⟨Fr.refl _ _, rfl⟩
        · intro σ w' hR hd
          simp only [fill, Nat.reduceAdd, if_true, Bool.false_eq_true, if_false]
          obtain h10 : σ 10 = _ := hd 2 (by decide)
          obtain h20 : σ 20 = _ := hd 12 (by decide)
          rw [h10, h20]
          clear h10 h20
          clear hd
          go_wp2
          exact ⟨Fr.refl _ _, rfl⟩
        · intro σ w' hR hd
          simp only [fill, Nat.reduceAdd, if_true, Bool.false_eq_true, if_false]
          obtain h21 : σ 21 = _ := hd 13 (by decide)
          rw [h21]
          clear h21
          clear hd
          go_wp2
          exact ⟨Fr.refl _ _, rfl⟩
        · intro σ w' hR hd
          simp only [fill, Nat.reduceAdd, if_true, Bool.false_eq_true, if_false]
          obtain h22 : σ 22 = _ := hd 14 (by decide)
          rw [h22]
          clear h22
          clear hd
          go_wp2
          exact ⟨Fr.refl _ _, rfl⟩
        · intro σ w' hR hd
          simp only [fill, Nat.reduceAdd, if_true, Bool.false_eq_true, if_false]
          obtain h22 : σ 22 = _ := hd 14 (by decide)
          rw [h22]
          clear h22
          clear hd
          obtain ⟨d0, d1, d2, df⟩ := (hbx.fr hR (by simp)).cells3
          go_wp2
          exact ⟨Fr.refl _ _, rfl⟩
        · intro σ w' hR hd
          simp only [fill, Nat.reduceAdd, if_true, Bool.false_eq_true, if_false]
          obtain h22 : σ 22 = _ := hd 14 (by decide)
          obtain h23 : σ 23 = _ := hd 15 (by decide)
          obtain h24 : σ 24 = _ := hd 16 (by decide)
          rw [h22, h23, h24]
          clear h22 h23 h24
          clear hd
          have hm4 := h1.fr hR (by simp) (by simp)
          go_wp2_with fail
          refine (has_calls hm4 q).mono ?_
          rintro r w4 ⟨rfl, hf0⟩
          have hf4 := Hd.mk hf0
          clear hf0
          rw [HF0.out]
          go_wp2
          exact ⟨hf4.out, rfl⟩
        · intro σ w' hR hd
          simp only [fill, Nat.reduceAdd, if_true, Bool.false_eq_true, if_false]
          obtain h22 : σ 22 = _ := hd 14 (by decide)
          obtain h25 : σ 25 = _ := hd 17 (by decide)
          rw [h22, h25]
          clear h22 h25
          clear hd
          go_wp2
          exact ⟨Fr.refl _ _, rfl⟩
        · intro σ w' hR hd
          simp only [fill, Nat.reduceAdd, if_true, Bool.false_eq_true, if_false]
          obtain h22 : σ 22 = _ := hd 14 (by decide)
          obtain h26 : σ 26 = _ := hd 18 (by decide)
          rw [h22, h26]
          clear h22 h26
          clear hd
          go_wp2
          exact ⟨Fr.refl _ _, rfl⟩
      · intro σ w3 hR hG hH
        obtain h27 : σ 27 = _ := hG 19 (by decide)
        simp only [fill, Nat.reduceAdd, if_true, Bool.false_eq_true, if_false, h27]
        clear h27
        clear hG
        have hbz3 : Blk w3.drew (w.heap.size + 1) 32 [.string ⟨#[]⟩, .int .u16 0, .int .u16 0, .slice none 0 0, .int .i64 0, .int .i64 0, .int .u64 0] := by have hx := hbz.fr hR (by simp); exact hx
        have hbx3 : Blk w3.drew w.heap.size 28 [.string q.name, .int .u16 q.ty, .int .u16 q.cl] := by have hx := hbx.fr hR (by simp); exact hx
        have hF3 : Fr [] w w3.drew := (hF.drew.trans hR).drew
        have h3 := h.fr hF3 (by simp) (by simp)
        go_wp2_with fail
        refine wp_region_gs { R := Fr [w.heap.size + 1], R1 := Fr [], gs := [Is (.pointer (some ⟨p, 0, none⟩)), Is (.pointer (some ⟨p, 0, none⟩)), Is (.pointer (some ⟨p, 0, none⟩)), Is (.map (some b)), Is (.agg #[.string q.name, .int .u16 q.ty, .int .u16 q.cl]), Is (.agg #[.string e.q.name, .int .u16 e.q.ty, .int .u16 e.q.cl, .slice e.ra e.rn e.rc, .int .i64 e.rcode, .int .i64 e.rank, .int .u64 e.expire]), No, Is (.bool true)], ds := [some 29, some 30, some 31, some 32, some 33, some 34, none, some 7], fl := [false, false, false, false, false, false, true, false], hs := [fun _ w2 => Blk w2 (w.heap.size + 1) 32 [.string ⟨#[]⟩, .int .u16 0, .int .u16 0, .slice none 0 0, .int .i64 0, .int .i64 0, .int .u64 0], fun _ w2 => Blk w2 (w.heap.size + 1) 32 [.string e.q.name, .int .u16 e.q.ty, .int .u16 e.q.cl, .slice e.ra e.rn e.rc, .int .i64 e.rcode, .int .i64 e.rank, .int .u64 e.expire]], hd := [[], []] } [false, false, false, false, false, false, false, true, false, false, false, false, false, false, false, false, false, false, false, false, false, false, false, false, false, false, false, false, false, true, true, true, true, true, true] (by kernel_rfl) _ (by kernel_rfl) (by kernel_rfl) (by kernel_rfl) (by kernel_rfl) rfl [] (fun _ _ _ h1 h2 => h1.trans h2) (fun _ _ h => h.mono (by simp)) (staI (staI (staI (staI (staI (staI (staN (staI sta0)))))))) (sth (fun _ _ _ hf h => h.fr hf (by simp)) (sth (fun _ _ _ hf h => h.fr hf (by simp)) sth0)) (fun _ _ h => h.size) _ (Fr.refl _ _) hbz3 ?_ ?_
        · refine ⟨?_, ?_, ?_, ?_, ?_, ?_, ?_, ?_, trivial⟩
          · intro σ w' hR hd
            simp only [fill, Nat.reduceAdd, if_true, Bool.false_eq_true, if_false]
            clear hd
            go_wp2
            exact ⟨Fr.refl _ _, rfl⟩
          · intro σ w' hR hd
            simp only [fill, Nat.reduceAdd, if_true, Bool.false_eq_true, if_false]
            obtain h29 : σ 29 = _ := hd 0 (by decide)
            rw [h29]
            clear h29
            clear hd
            go_wp2
            exact ⟨Fr.refl _ _, rfl⟩
          · intro σ w' hR hd
            simp only [fill, Nat.reduceAdd, if_true, Bool.false_eq_true, if_false]
            obtain h30 : σ 30 = _ := hd 1 (by decide)
            rw [h30]
            clear h30
            clear hd
            go_wp2
            exact ⟨Fr.refl _ _, rfl⟩
          · intro σ w' hR hd
            simp only [fill, Nat.reduceAdd, if_true, Bool.false_eq_true, if_false]
            obtain h31 : σ 31 = _ := hd 2 (by decide)
            rw [h31]
            clear h31
            clear hd
            obtain ⟨c0, c1⟩ := (h3.fr hR (by simp; omega) (by simp; omega)).cells
            go_wp2
            exact ⟨Fr.refl _ _, rfl⟩
          · intro σ w' hR hd
            simp only [fill, Nat.reduceAdd, if_true, Bool.false_eq_true, if_false]
            clear hd
            obtain ⟨d0, d1, d2, df⟩ := (hbx3.fr hR (by simp)).cells3
            go_wp2
            exact ⟨Fr.refl _ _, rfl⟩
          · intro σ w' hR hd
            simp only [fill, Nat.reduceAdd, if_true, Bool.false_eq_true, if_false]
            obtain h32 : σ 32 = _ := hd 3 (by decide)
            obtain h33 : σ 33 = _ := hd 4 (by decide)
            rw [h32, h33]
            clear h32 h33
            clear hd
            have hm2 := map_fr h3.map hR (by simp; omega)
            have hrun := hm2.look kq Try.underlying59 (zero35 w') (key_q q)
            rw [kv_find, HF0.out] at hrun
            simp only [Option.map_some, Option.map_none, Option.getD_some, Option.getD_none] at hrun
            unfold Qn.v at hrun
            go_wp2
            exact ⟨Fr.refl _ _, rfl⟩
          · intro σ w' hR hd hH
            simp only [fill, Nat.reduceAdd, if_true, Bool.false_eq_true, if_false]
            obtain h34 : σ 34 = _ := hd 5 (by decide)
            rw [h34]
            clear h34
            clear hd
            have hz0 : Blk w' (w.heap.size + 1) 32 [.string ⟨#[]⟩, .int .u16 0, .int .u16 0, .slice none 0 0, .int .i64 0, .int .i64 0, .int .u64 0] := hH
            obtain ⟨r0, r1, r2, r3, r4, r5, r6, rf⟩ := hz0.cells7
            go_wp2
            clear r0 r1 r2 r3 r4 r5 r6 rf
            obtain ⟨hq2, hfq⟩ := hz0.seven (a' := .string e.q.name) (b' := .int .u16 e.q.ty) (c' := .int .u16 e.q.cl) (d' := .slice e.ra e.rn e.rc) (e' := .int .i64 e.rcode) (f' := .int .i64 e.rank) (h' := .int .u64 e.expire) rfl
            exact ⟨hfq, trivial, hq2⟩
          · intro σ w' hR hd
            simp only [fill, Nat.reduceAdd, if_true, Bool.false_eq_true, if_false]
            clear hd
            go_wp2
            exact ⟨Fr.refl _ _, rfl⟩
        · intro σ7 w7' hR7 hG7 hH7
          obtain h7 : σ7 7 = _ := hG7 7 (by decide)
          simp only [fill, Nat.reduceAdd, if_true, Bool.false_eq_true, if_false, h7]
          clear h7
          clear hG7
          have hR7' : Fr [w.heap.size + 1] w3.drew w7' := hR7
          have hF7 : Fr [] w w7' := hF3.weak hR7' (by simp)
          have hq7 : Blk w7' (w.heap.size + 1) 32 [.string e.q.name, .int .u16 e.q.ty, .int .u16 e.q.cl, .slice e.ra e.rn e.rc, .int .i64 e.rcode, .int .i64 e.rank, .int .u64 e.expire] := hH7
          obtain ⟨r0, r1, r2, r3, r4, r5, r6, rf⟩ := hq7.cells7
          go_wp2_with fail
          refine bodyPost_ret (v := .tuple #[e.v, .bool true]) (by simp [results, Try.results27, go_sem, r0, r1, r2, r3, r4, r5, r6, En.v]) rfl ⟨by rw [HLK.out], hF7⟩

theorem drop_nil (q : Qn) (w : World) : Calls Try.prog 36 #[.pointer none, q.v] w fun r w' => r = .returned (.bool false) ∧ Fr [] w w' := by
  unfold Qn.v
  have hal := (Fr.refl [] w).alloc (.cells q.c.toArray 28)
  unfold Qn.c at hal
  go_enter Try.func36, Try.ntmps36
  go_wp2_with fail
  refine (has_nil q _).mono ?_
  rintro r w1 ⟨rfl, hf⟩
  have hF := hal.trans hf
  go_wp2
  go_ret
  exact ⟨rfl, hF⟩
theorem del_same {L : List En} {q : Qn} (h : findE L q = none) : delE L q = L := by
  unfold delE findE at *
  rw [List.filter_eq_self]
  intro e he
  have := List.find?_eq_none.1 h e he
  simpa using this
set_option maxRecDepth 100000 in
set_option maxHeartbeats 4000000 in
theorem drop_calls {w : World} {p b : Nat} {room : Int} {L : List En} (h : MAt w p b room L) (q : Qn) : Calls Try.prog 36 #[.pointer (some ⟨p, 0, none⟩), q.v] w fun r w' => r = .returned (.bool (findE L q).isSome) ∧ MAt w' p b room (delE L q) ∧ Fr [b] w w' := by
  rcases hs : (findE L q).isSome with _ | _
  · rw [del_same (by simpa using hs)]
    have HS := Hd.mk hs
    clear hs
    unfold Qn.v
    have hal := (Fr.refl [] w).alloc (.cells q.c.toArray 28)
    unfold Qn.c at hal
    have h1 := h.fr hal (by simp) (by simp)
    go_enter Try.func36, Try.ntmps36
    go_wp2_with fail
    refine (has_calls h1 q).mono ?_
    rintro r w1 ⟨rfl, hf⟩
    rw [HS.out]
    have hF := hal.trans hf
    have h4 := h.fr hF (by simp) (by simp)
    have hF : Fr [b] w w1 := hF.mono (by simp)
    go_wp2
    go_ret
    exact ⟨rfl, h4, hF⟩
  · have HS := Hd.mk hs
    clear hs
    unfold Qn.v
    have hblt := h.blt
    have hbp := h.ne
    have hal := (Fr.refl [] w).alloc (.cells q.c.toArray 28)
    have hbx := Blk.new w 28 q.c
    unfold Qn.c at hal hbx
    have h1 := h.fr hal (by simp) (by simp)
    go_enter Try.func36, Try.ntmps36
    go_wp2_with fail
    refine (has_calls h1 q).mono ?_
    rintro r w1 ⟨rfl, hf⟩
    rw [HS.out]
    have hF := hal.trans hf
    have hbx1 := hbx.fr hf (by simp)
    go_wp2_with fail
    refine wp_name ?_
    intro w4 hw4
    have hF4 : Fr [] w w4 := by rw [hw4]; exact hF
    have hbx4 : Blk w4.drew w.heap.size 28 [.string q.name, .int .u16 q.ty, .int .u16 q.cl] := by rw [hw4]; exact hbx1
    clear hw4
    have h4 := h.fr hF4 (by simp) (by simp)
    have hc4 : w4.drew.cell? ⟨p, 0, none⟩ = some (.map (some b)) := h4.cells.1
    have hmp4 := map_drew h4.map
    clear h4
    refine wp_region_gs { R := Fr [b], R1 := Fr [], gs := [Is (.pointer (some ⟨p, 0, none⟩)), Is (.pointer (some ⟨p, 0, none⟩)), Is (.pointer (some ⟨p, 0, none⟩)), Is (.map (some b)), Is (.agg #[.string q.name, .int .u16 q.ty, .int .u16 q.cl]), No], ds := [some 9, some 10, some 11, some 12, some 13, none], fl := [false, false, false, false, false, true], hs := [fun _ w2 => mapIs Qn.lit En.v Try.prog 28 w2 b (kv L), fun _ w2 => mapIs Qn.lit En.v Try.prog 28 w2 b (kv (delE L q))], hd := [[], []] } [false, false, false, false, false, false, false, false, false, true, true, true, true, true] (by kernel_rfl) _ (by kernel_rfl) (by kernel_rfl) (by kernel_rfl) (by kernel_rfl) rfl [] (fun _ _ _ h1 h2 => h1.trans h2) (fun _ _ h => h.mono (by simp)) (staI (staI (staI (staI (staI (staN sta0)))))) (sth (fun _ _ _ hf h => map_fr h hf (by simp)) (sth (fun _ _ _ hf h => map_fr h hf (by simp)) sth0)) (fun _ _ h => h.size) _ (Fr.refl _ _) hmp4 ?_ ?_
    · refine ⟨?_, ?_, ?_, ?_, ?_, ?_, trivial⟩
      · intro σ w' hR hd
        simp only [fill, Nat.reduceAdd, if_true, Bool.false_eq_true, if_false]
        clear hd
        go_wp2
        exact ⟨Fr.refl _ _, rfl⟩
      · intro σ w' hR hd
        simp only [fill, Nat.reduceAdd, if_true, Bool.false_eq_true, if_false]
        obtain h9 : σ 9 = _ := hd 0 (by decide)
        rw [h9]
        clear h9
        clear hd
        go_wp2
        exact ⟨Fr.refl _ _, rfl⟩
      · intro σ w' hR hd
        simp only [fill, Nat.reduceAdd, if_true, Bool.false_eq_true, if_false]
        obtain h10 : σ 10 = _ := hd 1 (by decide)
        rw [h10]
        clear h10
        clear hd
        go_wp2
        exact ⟨Fr.refl _ _, rfl⟩
      · intro σ w' hR hd
        simp only [fill, Nat.reduceAdd, if_true, Bool.false_eq_true, if_false]
        obtain h11 : σ 11 = _ := hd 2 (by decide)
        rw [h11]
        clear h11
        clear hd
        have c3 := hR.cell (a := ⟨p, 0, none⟩) (v := .map (some b)) hc4 (by simpa using Ne.symm hbp)
        go_wp2
        exact ⟨Fr.refl _ _, rfl⟩
      · intro σ w' hR hd
        simp only [fill, Nat.reduceAdd, if_true, Bool.false_eq_true, if_false]
        clear hd
        obtain ⟨d0, d1, d2, df⟩ := (hbx4.fr hR (by simp; omega)).cells3
        go_wp2
        exact ⟨Fr.refl _ _, rfl⟩
      · intro σ w' hR hd hH
        simp only [fill, Nat.reduceAdd, if_true, Bool.false_eq_true, if_false]
        obtain h12 : σ 12 = _ := hd 3 (by decide)
        obtain h13 : σ 13 = _ := hd 4 (by decide)
        rw [h12, h13]
        clear h12 h13
        clear hd
        have hm5 : mapIs Qn.lit En.v Try.prog 28 w' b (kv L) := hH
        obtain ⟨w5, hrun, hm6, htn⟩ := hm5.drop lit_inj kq Try.underlying59 (key_q q) 0
        clear hm5
        unfold Qn.v at hrun
        rw [kv_del] at hm6
        go_wp2
        exact ⟨Fr.turned htn, trivial, hm6⟩
    · intro σ5 w5' hR5 hG5 hH5
      simp only [fill, Nat.reduceAdd, if_true, Bool.false_eq_true, if_false]
      clear hG5
      have hF5 : Fr [b] w w5' := (hF4.mono (by simp)).trans ((Fr.drew (Fr.refl [b] w4)).trans hR5)
      have hM5 : MAt w5' p b room (delE L q) := ⟨h.blk.fr hF5 (by simpa using Ne.symm hbp), hH5⟩
      go_wp2
      go_ret
      exact ⟨rfl, hM5, hF5⟩
end Go.Proofs.Ytbmejolmbfmdiaa
