import Derived.Test.YtbmejolmbfmdiaaM1
namespace Go.Proofs.Ytbmejolmbfmdiaa
open Go Go.RowKit Go.Proofs.MapL

theorem map_drew {w : World} {b : Nat} {L : List (Qn × En)} (h : mapIs Qn.lit En.v Try.prog 28 w b L) : mapIs Qn.lit En.v Try.prog 28 w.drew b L := mapIs_block h rfl
set_option maxRecDepth 100000 in
set_option maxHeartbeats 2000000 in
theorem full_calls {w : World} {p b : Nat} {room : Int} {L : List En} (h : MAt w p b room L) : Calls Try.prog 19 #[.pointer (some ⟨p, 0, none⟩)] w fun r w' => r = .returned (.bool (decide ((L.length : Int) ≥ room))) ∧ Fr [] w w' := by
  go_enter Try.func19, Try.ntmps19
  go_wp2_with fail
  refine wp_region_gs { R := Fr [], R1 := Fr [], gs := [Is (.pointer (some ⟨p, 0, none⟩)), Is (.bool false), Is (.bool false), Is (.pointer (some ⟨p, 0, none⟩)), Is (.int .i64 L.length), Is (.pointer (some ⟨p, 0, none⟩)), Is (.pointer (some ⟨p, 0, none⟩)), Is (.pointer (some ⟨p, 1, none⟩)), Is (.int .i64 room), Is (.bool (decide ((L.length : Int) ≥ room))), Is (.bool (decide ((L.length : Int) ≥ room))), Is (.bool (decide ((L.length : Int) ≥ room)))], ds := [some 3, some 4, some 5, some 6, some 7, some 8, some 9, some 10, some 11, some 12, some 13, some 2], fl := [false, false, false, false, false, false, false, false, false, false, false, false], hs := [], hd := [] } [false, false, true, true, true, true, true, true, true, true, true, true, true, true] (by kernel_rfl) _ (by kernel_rfl) (by kernel_rfl) (by kernel_rfl) (by kernel_rfl) rfl [] (fun _ _ _ h1 h2 => h1.trans h2) (fun _ _ h => h) (staI (staI (staI (staI (staI (staI (staI (staI (staI (staI (staI (staI sta0)))))))))))) sth0 (fun _ _ h => h.size) _ (Fr.refl _ _) trivial ?_ ?_
  · refine ⟨?_, ?_, ?_, ?_, ?_, ?_, ?_, ?_, ?_, ?_, ?_, ?_, trivial⟩
    · intro σ w' hR hd
      simp only [fill, Nat.reduceAdd, if_true, Bool.false_eq_true, if_false]
      clear hd
      go_wp2
      exact ⟨Fr.refl _ _, rfl⟩
    · intro σ w' hR hd
      simp only [fill, Nat.reduceAdd, if_true, Bool.false_eq_true, if_false]
      obtain h3 : σ 3 = _ := hd 0 (by decide)
      rw [h3]
      clear h3
      clear hd
      go_wp2
      exact ⟨Fr.refl _ _, rfl⟩
    · intro σ w' hR hd
      simp only [fill, Nat.reduceAdd, if_true, Bool.false_eq_true, if_false]
      obtain h4 : σ 4 = _ := hd 1 (by decide)
      rw [h4]
      clear h4
      clear hd
      go_wp2
      exact ⟨Fr.refl _ _, rfl⟩
    · intro σ w' hR hd
      simp only [fill, Nat.reduceAdd, if_true, Bool.false_eq_true, if_false]
      obtain h5 : σ 5 = _ := hd 2 (by decide)
      rw [h5]
      clear h5
      clear hd
      go_wp2
      exact ⟨Fr.refl _ _, rfl⟩
    · intro σ w' hR hd
      simp only [fill, Nat.reduceAdd, if_true, Bool.false_eq_true, if_false]
      obtain h5 : σ 5 = _ := hd 2 (by decide)
      obtain h6 : σ 6 = _ := hd 3 (by decide)
      rw [h5, h6]
      clear h5 h6
      clear hd
      have hm : MAt w' p b room L := h.fr (Fr.trans (Fr.drew (Fr.refl [] w)) hR) (by simp) (by simp)
      go_wp2_with fail
      refine (len_calls hm).mono ?_
      rintro e w3 ⟨rfl, rfl⟩
      go_wp2
      exact ⟨Fr.refl _ _, rfl⟩
    · intro σ w' hR hd
      simp only [fill, Nat.reduceAdd, if_true, Bool.false_eq_true, if_false]
      obtain h5 : σ 5 = _ := hd 2 (by decide)
      rw [h5]
      clear h5
      clear hd
      go_wp2
      exact ⟨Fr.refl _ _, rfl⟩
    · intro σ w' hR hd
      simp only [fill, Nat.reduceAdd, if_true, Bool.false_eq_true, if_false]
      obtain h5 : σ 5 = _ := hd 2 (by decide)
      obtain h8 : σ 8 = _ := hd 5 (by decide)
      rw [h5, h8]
      clear h5 h8
      clear hd
      go_wp2
      exact ⟨Fr.refl _ _, rfl⟩
    · intro σ w' hR hd
      simp only [fill, Nat.reduceAdd, if_true, Bool.false_eq_true, if_false]
      obtain h5 : σ 5 = _ := hd 2 (by decide)
      obtain h9 : σ 9 = _ := hd 6 (by decide)
      rw [h5, h9]
      clear h5 h9
      clear hd
      go_wp2
      exact ⟨Fr.refl _ _, rfl⟩
    · intro σ w' hR hd
      simp only [fill, Nat.reduceAdd, if_true, Bool.false_eq_true, if_false]
      obtain h5 : σ 5 = _ := hd 2 (by decide)
      obtain h10 : σ 10 = _ := hd 7 (by decide)
      rw [h5, h10]
      clear h5 h10
      clear hd
      obtain ⟨c0, c1⟩ := (h.fr (Fr.trans (Fr.drew (Fr.refl [] w)) hR) (by simp) (by simp)).cells
      go_wp2
      exact ⟨Fr.refl _ _, rfl⟩
    · intro σ w' hR hd
      simp only [fill, Nat.reduceAdd, if_true, Bool.false_eq_true, if_false]
      obtain h5 : σ 5 = _ := hd 2 (by decide)
      obtain h7 : σ 7 = _ := hd 4 (by decide)
      obtain h11 : σ 11 = _ := hd 8 (by decide)
      rw [h5, h7, h11]
      clear h5 h7 h11
      clear hd
      go_wp2
      exact ⟨Fr.refl _ _, rfl⟩
    · intro σ w' hR hd
      simp only [fill, Nat.reduceAdd, if_true, Bool.false_eq_true, if_false]
      obtain h5 : σ 5 = _ := hd 2 (by decide)
      obtain h12 : σ 12 = _ := hd 9 (by decide)
      rw [h5, h12]
      clear h5 h12
      clear hd
      go_wp2
      exact ⟨Fr.refl _ _, rfl⟩
    · intro σ w' hR hd
      simp only [fill, Nat.reduceAdd, if_true, Bool.false_eq_true, if_false]
      obtain h13 : σ 13 = _ := hd 10 (by decide)
      rw [h13]
      clear h13
      clear hd
      go_wp2
      exact ⟨Fr.refl _ _, rfl⟩
  · intro σ w3 hR hG hH
    obtain h2 : σ 2 = _ := hG 11 (by decide)
    simp only [fill, Nat.reduceAdd, if_true, Bool.false_eq_true, if_false, h2]
    clear h2
    clear hG
    go_wp2
    go_ret
    exact ⟨rfl, (Fr.drew (Fr.refl [] w)).trans hR⟩
set_option maxRecDepth 100000 in
set_option maxHeartbeats 2000000 in
theorem full_nil (w : World) : Calls Try.prog 19 #[.pointer none] w fun r w' => r = .returned (.bool true) ∧ Fr [] w w' := by
  go_enter Try.func19, Try.ntmps19
  go_wp2_with fail
  refine wp_region_gs { R := Fr [], R1 := Fr [], gs := [Is (.pointer none), Is (.bool true), Is (.bool true), No, No, No, No, No, No, No, Is (.bool true), Is (.bool true)], ds := [some 3, some 4, some 5, some 6, some 7, some 8, some 9, some 10, some 11, some 12, some 13, some 2], fl := [false, false, false, false, false, false, false, false, false, false, false, false], hs := [], hd := [] } [false, false, true, true, true, true, true, true, true, true, true, true, true, true] (by kernel_rfl) _ (by kernel_rfl) (by kernel_rfl) (by kernel_rfl) (by kernel_rfl) rfl [] (fun _ _ _ h1 h2 => h1.trans h2) (fun _ _ h => h) (staI (staI (staI (staN (staN (staN (staN (staN (staN (staN (staI (staI sta0)))))))))))) sth0 (fun _ _ h => h.size) _ (Fr.refl _ _) trivial ?_ ?_
  · refine ⟨?_, ?_, ?_, ?_, ?_, ?_, ?_, ?_, ?_, ?_, ?_, ?_, trivial⟩
    · intro σ w' hR hd
      simp only [fill, Nat.reduceAdd, if_true, Bool.false_eq_true, if_false]
      clear hd
      go_wp2
      exact ⟨Fr.refl _ _, rfl⟩
    · intro σ w' hR hd
      simp only [fill, Nat.reduceAdd, if_true, Bool.false_eq_true, if_false]
      obtain h3 : σ 3 = _ := hd 0 (by decide)
      rw [h3]
      clear h3
      clear hd
      go_wp2
      exact ⟨Fr.refl _ _, rfl⟩
    · intro σ w' hR hd
      simp only [fill, Nat.reduceAdd, if_true, Bool.false_eq_true, if_false]
      obtain h4 : σ 4 = _ := hd 1 (by decide)
      rw [h4]
      clear h4
      clear hd
      go_wp2
      exact ⟨Fr.refl _ _, rfl⟩
    · intro σ w' hR hd
      simp only [fill, Nat.reduceAdd, if_true, Bool.false_eq_true, if_false]
      obtain h5 : σ 5 = _ := hd 2 (by decide)
      rw [h5]
      clear h5
      clear hd
      go_wp2
      exact ⟨Fr.refl _ _, trivial⟩
    · intro σ w' hR hd
      simp only [fill, Nat.reduceAdd, if_true, Bool.false_eq_true, if_false]
      obtain h5 : σ 5 = _ := hd 2 (by decide)
      rw [h5]
      clear h5
      clear hd
      go_wp2
      exact ⟨Fr.refl _ _, trivial⟩
    · intro σ w' hR hd
      simp only [fill, Nat.reduceAdd, if_true, Bool.false_eq_true, if_false]
      obtain h5 : σ 5 = _ := hd 2 (by decide)
      rw [h5]
      clear h5
      clear hd
      go_wp2
      exact ⟨Fr.refl _ _, trivial⟩
    · intro σ w' hR hd
      simp only [fill, Nat.reduceAdd, if_true, Bool.false_eq_true, if_false]
      obtain h5 : σ 5 = _ := hd 2 (by decide)
      rw [h5]
      clear h5
      clear hd
      go_wp2
      exact ⟨Fr.refl _ _, trivial⟩
    · intro σ w' hR hd
      simp only [fill, Nat.reduceAdd, if_true, Bool.false_eq_true, if_false]
      obtain h5 : σ 5 = _ := hd 2 (by decide)
      rw [h5]
      clear h5
      clear hd
      go_wp2
      exact ⟨Fr.refl _ _, trivial⟩
    · intro σ w' hR hd
      simp only [fill, Nat.reduceAdd, if_true, Bool.false_eq_true, if_false]
      obtain h5 : σ 5 = _ := hd 2 (by decide)
      rw [h5]
      clear h5
      clear hd
      go_wp2
      exact ⟨Fr.refl _ _, trivial⟩
    · intro σ w' hR hd
      simp only [fill, Nat.reduceAdd, if_true, Bool.false_eq_true, if_false]
      obtain h5 : σ 5 = _ := hd 2 (by decide)
      rw [h5]
      clear h5
      clear hd
      go_wp2
      exact ⟨Fr.refl _ _, trivial⟩
    · intro σ w' hR hd
      simp only [fill, Nat.reduceAdd, if_true, Bool.false_eq_true, if_false]
      obtain h5 : σ 5 = _ := hd 2 (by decide)
      rw [h5]
      clear h5
      clear hd
      go_wp2
      exact ⟨Fr.refl _ _, rfl⟩
    · intro σ w' hR hd
      simp only [fill, Nat.reduceAdd, if_true, Bool.false_eq_true, if_false]
      obtain h13 : σ 13 = _ := hd 10 (by decide)
      rw [h13]
      clear h13
      clear hd
      go_wp2
      exact ⟨Fr.refl _ _, rfl⟩
  · intro σ w3 hR hG hH
    obtain h2 : σ 2 = _ := hG 11 (by decide)
    simp only [fill, Nat.reduceAdd, if_true, Bool.false_eq_true, if_false, h2]
    clear h2
    clear hG
    go_wp2
    go_ret
    exact ⟨rfl, (Fr.drew (Fr.refl [] w)).trans hR⟩
def zeroEn : Value := .agg #[.string ⟨#[]⟩, .int .u16 0, .int .u16 0, .slice none 0 0, .int .i64 0, .int .i64 0, .int .u64 0]
theorem zero35 (w : World) : (zeroValue 32).run Try.prog w = .ok zeroEn w := by kernel_rfl
def atOr (L : List En) (q : Qn) : Value := ((findE L q).map En.v).getD zeroEn
/-- An entry's cells, or none's. -/
theorem atOr_agg (L : List En) (q : Qn) : ∃ (n : ByteArray) (t c : Int) (ra : Option Addr) (rn rc : Nat) (a b d : Int), atOr L q = .agg #[.string n, .int .u16 t, .int .u16 c, .slice ra rn rc, .int .i64 a, .int .i64 b, .int .u64 d] := by
  unfold atOr
  cases h : findE L q with
  | none => exact ⟨_, _, _, _, _, _, _, _, _, rfl⟩
  | some e => exact ⟨_, _, _, _, _, _, _, _, _, rfl⟩
theorem has_nil (q : Qn) (w : World) : Calls Try.prog 20 #[.pointer none, q.v] w fun r w' => r = .returned (.bool false) ∧ Fr [] w w' := by
  unfold Qn.v
  have hal := (Fr.refl [] w).alloc (.cells q.c.toArray 28)
  unfold Qn.c at hal
  go_enter Try.func20, Try.ntmps20
  go_wp2
  go_ret
  exact ⟨rfl, hal⟩
set_option maxRecDepth 100000 in
set_option maxHeartbeats 2000000 in
theorem has_calls {w : World} {p b : Nat} {room : Int} {L : List En} (h : MAt w p b room L) (q : Qn) : Calls Try.prog 20 #[.pointer (some ⟨p, 0, none⟩), q.v] w fun r w' => r = .returned (.bool (findE L q).isSome) ∧ Fr [] w w' := by
  unfold Qn.v
  obtain ⟨x, hx⟩ : ∃ x, atOr L q = x := ⟨_, rfl⟩
  obtain ⟨is, his⟩ : ∃ is, (findE L q).isSome = is := ⟨_, rfl⟩
  rw [his]
  have HIS := Hd.mk his
  have HX := Hd.mk hx
  clear his hx
  go_enter Try.func20, Try.ntmps20
  go_wp2_with fail
  refine wp_name ?_
  intro w1 hw1
  have hF : Fr [] w w1 := by rw [hw1]; exact (Fr.refl [] w).alloc _
  have hbx : Blk w1.drew w.heap.size 28 q.c := by rw [hw1]; exact Blk.new _ _ _
  unfold Qn.c at hbx
  have hN : w1.heap.size = w.heap.size + 1 := by rw [hw1]; simp
  clear hw1
  have h1 := h.fr hF (by simp) (by simp)
  have hplt := h.plt
  have hbN : b < w.heap.size + 1 := by have := h.blt; omega
  have hc0 : w1.drew.cell? ⟨p, 0, none⟩ = some (.map (some b)) := h1.cells.1
  have hmp := map_drew h1.map
  clear h h1
  refine wp_region_gs { R := FrT (w.heap.size + 1) [] 32, R1 := Fr [], gs := [Is (.pointer (some ⟨p, 0, none⟩)), Is (.pointer (some ⟨p, 0, none⟩)), Is (.pointer (some ⟨p, 0, none⟩)), Is (.map (some b)), Is (.agg #[.string q.name, .int .u16 q.ty, .int .u16 q.cl]), Is (.tuple #[x, .bool is]), Is (.tuple #[x, .bool is]), Is (x), Is (.bool is), (fun (v : Value) (w2 : World) => ∃ g, v = .pointer (some ⟨g, 0, none⟩) ∧ w.heap.size + 1 ≤ g ∧ BlkN w2 g 32 7), No, Is (.bool is)], ds := [some 10, some 11, some 12, some 13, some 14, some 15, some 9, some 16, some 17, some 5, none, some 6], fl := [false, false, false, false, false, false, false, false, false, false, true, false], hs := [fun _ _ => True, fun _ _ => True], hd := [[], []] } [false, false, false, false, false, true, true, false, false, true, true, true, true, true, true, true, true, true, false] (by kernel_rfl) _ (by kernel_rfl) (by kernel_rfl) (by kernel_rfl) (by kernel_rfl) rfl [] (fun _ _ _ h1 h2 => h1.trans h2) (fun _ _ h => FrT.of (h.mono (by simp))) (staI (staI (staI (staI (staI (staI (staI (staI (staI (sta (fun _ _ _ hf ⟨g, h1, h2, h3⟩ => ⟨g, h1, h2, h3.frT hf (by simp)⟩) (staN (staI sta0)))))))))))) (sth (fun _ _ _ _ h => h) (sth (fun _ _ _ _ h => h) sth0)) (fun _ _ h => h.size) _ (FrT.of (Fr.refl _ _)) trivial ?_ ?_
  · refine ⟨?_, ?_, ?_, ?_, ?_, ?_, ?_, ?_, ?_, ?_, ?_, ?_, trivial⟩
    · intro σ w' hR hd
      simp only [fill, Nat.reduceAdd, if_true, Bool.false_eq_true, if_false]
      clear hd
      go_wp2
      exact ⟨Fr.refl _ _, rfl⟩
    · intro σ w' hR hd
      simp only [fill, Nat.reduceAdd, if_true, Bool.false_eq_true, if_false]
      obtain h10 : σ 10 = _ := hd 0 (by decide)
      rw [h10]
      clear h10
      clear hd
      go_wp2
      exact ⟨Fr.refl _ _, rfl⟩
    · intro σ w' hR hd
      simp only [fill, Nat.reduceAdd, if_true, Bool.false_eq_true, if_false]
      obtain h11 : σ 11 = _ := hd 1 (by decide)
      rw [h11]
      clear h11
      clear hd
      go_wp2
      exact ⟨Fr.refl _ _, rfl⟩
    · intro σ w' hR hd
      simp only [fill, Nat.reduceAdd, if_true, Bool.false_eq_true, if_false]
      obtain h12 : σ 12 = _ := hd 2 (by decide)
      rw [h12]
      clear h12
      clear hd
      have c3 := hR.cell (a := ⟨p, 0, none⟩) (v := .map (some b)) hc0 (by simp) (by simp only; omega)
      go_wp2
      exact ⟨Fr.refl _ _, rfl⟩
    · intro σ w' hR hd
      simp only [fill, Nat.reduceAdd, if_true, Bool.false_eq_true, if_false]
      clear hd
      obtain ⟨d0, d1, d2, df⟩ := (hbx.frT hR (by simp) (.inl (by omega))).cells3
      go_wp2
      exact ⟨Fr.refl _ _, rfl⟩
    · intro σ w' hR hd
      simp only [fill, Nat.reduceAdd, if_true, Bool.false_eq_true, if_false]
      obtain h13 : σ 13 = _ := hd 3 (by decide)
      obtain h14 : σ 14 = _ := hd 4 (by decide)
      rw [h13, h14]
      clear h13 h14
      clear hd
      have hm2 := map_frT hmp hR (by simp) hbN
      have hrun := hm2.look_ok kq Try.underlying59 (zero35 w') (key_q q)
      rw [kv_find, show ((findE L q).map En.v).getD zeroEn = x from HX.out, HIS.out] at hrun
      unfold Qn.v at hrun
      go_wp2
      exact ⟨Fr.refl _ _, rfl⟩
    · intro σ w' hR hd
      simp only [fill, Nat.reduceAdd, if_true, Bool.false_eq_true, if_false]
      obtain h15 : σ 15 = _ := hd 5 (by decide)
      rw [h15]
      clear h15
      clear hd
      go_wp2
      exact ⟨Fr.refl _ _, rfl⟩
    · intro σ w' hR hd
      simp only [fill, Nat.reduceAdd, if_true, Bool.false_eq_true, if_false]
      obtain h9 : σ 9 = _ := hd 6 (by decide)
      rw [h9]
      clear h9
      clear hd
      go_wp2
      exact ⟨Fr.refl _ _, rfl⟩
    · intro σ w' hR hd
      simp only [fill, Nat.reduceAdd, if_true, Bool.false_eq_true, if_false]
      obtain h9 : σ 9 = _ := hd 6 (by decide)
      rw [h9]
      clear h9
      clear hd
      go_wp2
      exact ⟨Fr.refl _ _, rfl⟩
    · intro σ w' hR hd
      simp only [fill, Nat.reduceAdd, if_true, Bool.false_eq_true, if_false]
      clear hd
      have hz := hR.size
      simp only [World.size_drew] at hz
      go_wp2
      exact ⟨(Fr.refl _ _).alloc _, ⟨_, rfl, by omega, _, rfl, Blk.new _ _ _⟩⟩
    · intro σ w' hR hd hH
      simp only [fill, Nat.reduceAdd, if_true, Bool.false_eq_true, if_false]
      obtain ⟨g, h5, hg1, cs, hcl, hgb⟩ : (fun (v : Value) (w2 : World) => ∃ g, v = .pointer (some ⟨g, 0, none⟩) ∧ w.heap.size + 1 ≤ g ∧ BlkN w2 g 32 7) (σ 5) w' := hd 9 (by decide)
      obtain h16 : σ 16 = _ := hd 7 (by decide)
      rw [h5, h16]
      clear h5 h16
      clear hd
      obtain ⟨xn, xt, xc, x1, x2, x3, xa, xb, xd, hxx⟩ := atOr_agg L q
      rw [HX.out] at hxx
      match cs, hcl, hgb with
      | [e0, e1, e2, e3, e4, e5, e6], _, hgb =>
      rw [hxx]
      obtain ⟨r0, r1, r2, r3, r4, r5, r6, rf⟩ := hgb.cells7
      go_wp2
      clear r0 r1 r2 r3 r4 r5 r6 rf
      obtain ⟨hq2, hfq⟩ := hgb.seven (a' := .string xn) (b' := .int .u16 xt) (c' := .int .u16 xc) (d' := .slice x1 x2 x3) (e' := .int .i64 xa) (f' := .int .i64 xb) (h' := .int .u64 xd) rfl
      exact ⟨FrT.set hfq hg1 hgb hq2 rfl, trivial, trivial⟩
    · intro σ w' hR hd
      simp only [fill, Nat.reduceAdd, if_true, Bool.false_eq_true, if_false]
      obtain h17 : σ 17 = _ := hd 8 (by decide)
      rw [h17]
      clear h17
      clear hd
      go_wp2
      exact ⟨Fr.refl _ _, rfl⟩
  · intro σ w3 hR hG hH
    obtain h6 : σ 6 = _ := hG 11 (by decide)
    simp only [fill, Nat.reduceAdd, if_true, Bool.false_eq_true, if_false, h6]
    clear h6
    clear hG
    have hF2 := hF.trans ((Fr.drew (Fr.refl [] w1)).trans (hR.fr (by simp; omega)))
    go_wp2
    go_ret
    exact ⟨rfl, hF2⟩
end Go.Proofs.Ytbmejolmbfmdiaa
