import Derived.Test.YtjfhdffmlnkooaaSC
import Derived.Test.YtjfhdffmlnkooaaPPa
namespace Go.Proofs.Ytjfhdffmlnkooaa
open Go Go.RowKit Go.Proofs.MapL PPM Go.Proofs.YtjfhdffmlnkooaaW.PrintWords
attribute [local go_sem high] eqA25

theorem entry_calls (n : ByteArray) (r x : Int) (w : World) : Calls Try.prog 25 #[.string n, .int .i64 r, .int .u64 x] w fun e w' => e = .returned (.agg #[.string n, .int .u16 1, .int .u16 1, .slice none 0 0, .int .i64 0, .int .i64 r, .int .u64 x]) ∧ Fr [] w w' := by
  go_enter Try.func25, Try.ntmps25
  go_upto_region 1 with (fail)
  refine wp_name ?_; intro w0 hw0
  have hF : Fr [] w w0 := alloc_of hw0
  have hb : Blk w0 w.heap.size 29 [.string ⟨#[]⟩, .int .u16 0, .int .u16 0, .slice none 0 0, .int .i64 0, .int .i64 0, .int .u64 0] := by rw [hw0]; exact Blk.new _ _ _
  clear hw0
  obtain ⟨y0, y1, y2, y3, y4, y5, y6, yf⟩ := hb.cells7
  go_wp2
  refine ret_name ?_; intro w9 hw9
  obtain ⟨h9, f9⟩ := Blk.seven hb hw9
  clear hw9 y0 y1 y2 y3 y4 y5 y6 yf
  obtain ⟨y0, y1, y2, y3, y4, y5, y6, -⟩ := h9.cells7
  refine bodyPost_ret (v := .agg #[.string n, .int .u16 1, .int .u16 1, .slice none 0 0, .int .i64 0, .int .i64 r, .int .u64 x]) (by simp [results, Try.results25, go_sem, y0, y1, y2, y3, y4, y5, y6]) rfl ⟨rfl, hF.weak f9 (by simp)⟩
def qA : Qn := ⟨⟨#[1, 97, 0]⟩, 1, 1, by decide⟩
def qB : Qn := ⟨⟨#[1, 98, 0]⟩, 1, 1, by decide⟩
def eA : En := ⟨qA, none, 0, 0, 0, 3, 9⟩
def eB : En := ⟨qB, none, 0, 0, 0, 3, 9⟩
def sA : SS := ⟨[⟨eA, true, false⟩], 0⟩
def sB : SS := ⟨[⟨eB, true, false⟩], 0⟩
theorem shown1 : insR (newS 1) eA 1 = (sA, [], 0) := by rfl
theorem due_sA : dueQ sA 1 = [] := by
  unfold dueQ
  rw [List.map_eq_nil_iff, List.eq_nil_iff_forall_not_mem]
  intro k hk
  obtain ⟨a, h1, -, h3⟩ := mem_dueK.1 hk
  have : a = ⟨eA, true, false⟩ := by
    have := List.mem_of_getElem? h1
    simpa [sA] using this
  rw [this] at h3
  exact absurd h3 (by decide)
theorem shown2 : insR sA eB 1 = (sB, [qA], 0) := by
  have h1 : goneQ sA 1 = [qA] := by
    unfold goneQ
    rw [if_neg (by decide), due_sA, if_neg (by decide)]
    rfl
  have h2 : roomS sA 1 = ⟨[Sl.none], 0⟩ := by
    unfold roomS
    rw [if_neg (by decide), due_sA, if_neg (by decide)]
    rfl
  have h3 : sA.find eB.q = none := by rfl
  unfold insR
  rw [if_pos (by rfl), h3, h1, h2]
  rfl
theorem shown3 : lookR sB qA 1 = (sB, zeroEn, false) := by rfl
theorem shown4 : ∃ s4, lookR sB qB 1 = (s4, eB, true) := ⟨_, by rfl⟩
set_option maxRecDepth 100000 in
set_option maxHeartbeats 4000000 in
theorem shown_calls (w : World) : Calls Try.prog 9 #[] w fun r w' => r = .returned (.bool true) ∧ Fr [] w w' := by
  go_enter Try.func9, Try.ntmps9
  go_wp2_with fail
  refine (shnew_calls 1 4 (by omega) (by omega) (by omega) (by omega) _).mono ?_
  rintro r w1 ⟨B, rfl, hs1, hf1, hge1⟩
  have HG := Hd.mk hge1
  have HS1 := Hd.mk hs1
  have HF1 := Hd.mk hf1
  clear hs1 hf1 hge1
  have HGW : Hd (∀ x ∈ B.wr, w.heap.size ≤ x) := Hd.mk fun x hx => HG.out x (B.wr_all x hx)
  go_wp2_with fail
  refine (entry_calls _ _ _ _).mono ?_
  rintro r w2 ⟨rfl, hf2⟩
  go_upto_region 3 with (fail)
  refine wp_name ?_; intro w3 hw3
  have hf3 := alloc_of hw3
  have hb3 : Blk w3 w2.heap.size 29 [.string ⟨#[1, 97, 0]⟩, .int .u16 1, .int .u16 1, .slice none 0 0, .int .i64 0, .int .i64 3, .int .u64 9] := blk_of (c := [.string ⟨#[1, 97, 0]⟩, .int .u16 1, .int .u16 1, .slice none 0 0, .int .i64 0, .int .i64 3, .int .u64 9]) hw3
  clear hw3
  have hz2 := hf2.size
  have HLA : Hd (∀ y ∈ B.all, y ≠ w2.heap.size) := Hd.mk fun y hy => by have := HS1.out.lt y hy; omega
  have HW3 : Hd (w.heap.size ≤ w2.heap.size) := Hd.mk (by have := HF1.out.size; omega)
  obtain ⟨xa, hxa⟩ : ∃ xa, w2.heap.size = xa := ⟨_, rfl⟩
  rw [hxa] at hb3 HLA ⊢
  have HS3 := Hd.mk (HS1.out.fr0 (hf2.trans hf3))
  have HF3 := Hd.mk (HF1.out.trans (hf2.trans hf3))
  have HA3 := Hd.mk hb3
  clear hf2 hf3 hb3 hxa hz2 HW3
  go_wp2_with fail
  refine (entry_calls _ _ _ _).mono ?_
  rintro r w4 ⟨rfl, hf4⟩
  go_upto_region 4 with (fail)
  refine wp_name ?_; intro w5 hw5
  have hf5 := alloc_of hw5
  have hb5 : Blk w5 w4.heap.size 29 [.string ⟨#[1, 98, 0]⟩, .int .u16 1, .int .u16 1, .slice none 0 0, .int .i64 0, .int .i64 3, .int .u64 9] := blk_of (c := [.string ⟨#[1, 98, 0]⟩, .int .u16 1, .int .u16 1, .slice none 0 0, .int .i64 0, .int .i64 3, .int .u64 9]) hw5
  clear hw5
  have hz4 := hf4.size
  have HLB : Hd (∀ y ∈ B.all, y ≠ w4.heap.size) := Hd.mk fun y hy => by have := HS3.out.lt y hy; omega
  obtain ⟨xb, hxb⟩ : ∃ xb, w4.heap.size = xb := ⟨_, rfl⟩
  rw [hxb] at hb5 HLB ⊢
  have HS5 := Hd.mk (HS3.out.fr0 (hf4.trans hf5))
  have HF5 := Hd.mk (HF3.out.trans (hf4.trans hf5))
  have HA5 := Hd.mk (HA3.out.fr (hf4.trans hf5) (by simp))
  have HB5 := Hd.mk hb5
  clear hf4 hf5 hb5 hxb hz4
  obtain ⟨r0, r1, r2, r3, r4, r5, r6, rf⟩ := HA5.out.cells7
  go_wp2_with fail
  clear r0 r1 r2 r3 r4 r5 r6 rf
  refine (shinsert_calls HS5.out eA ⟨by decide, by decide⟩ (now := 1) ⟨by decide, by decide⟩).mono ?_
  rintro r w6 ⟨v6, rfl, hq6, hn6, hs6, hf6⟩
  rw [shown1] at hn6 hs6 ⊢
  obtain rfl := hn6 rfl
  have hnot : ∀ y : Nat, (∀ x ∈ B.all, x ≠ y) → y ∉ B.wr := fun y h hx => h y (B.wr_all y hx) rfl
  have HNOT := Hd.mk hnot
  have HS6 := Hd.mk hs6
  have HF6 := Hd.mk (HF5.out.weak hf6 (fun x hx => .inr (HGW.out x hx)))
  have HA6 := Hd.mk (HA5.out.fr hf6 (hnot _ HLA.out))
  have HB6 := Hd.mk (HB5.out.fr hf6 (hnot _ HLB.out))
  clear hq6 hn6 hs6 hf6 hnot
  obtain ⟨r0, r1, r2, r3, r4, r5, r6, rf⟩ := HB6.out.cells7
  go_wp2_with fail
  clear r0 r1 r2 r3 r4 r5 r6 rf
  refine (shinsert_calls HS6.out eB ⟨by decide, by decide⟩ (now := 1) ⟨by decide, by decide⟩).mono ?_
  rintro r w7 ⟨v7, rfl, hq7, -, hs7, hf7⟩
  rw [shown2] at hq7 hs7 ⊢
  obtain ⟨g2, c2, rfl, hg2, -⟩ := own_form hq7 (by simp)
  have HQ7 := Hd.mk hq7
  have HS7 := Hd.mk hs7
  have HF7 := Hd.mk (HF6.out.weak hf7 (fun x hx => .inr (HGW.out x hx)))
  have HA7 := Hd.mk (HA6.out.fr hf7 (HNOT.out _ HLA.out))
  have HB7 := Hd.mk (HB6.out.fr hf7 (HNOT.out _ HLB.out))
  have HG2 : Hd (g2 ∉ B.wr) := Hd.mk fun hx => by have := HS6.out.lt g2 (B.wr_all g2 hx); omega
  clear hq7 hs7 hf7 hg2
  simp only [List.length_singleton]
  obtain ⟨r0, r1, r2, r3, r4, r5, r6, rf⟩ := HA7.out.cells7
  go_wp2_with fail
  clear r0 r1 r2 r3 r4 r5 r6 rf
  refine (lookup_calls HS7.out qA 1).mono ?_
  rintro r w8 ⟨rfl, hs8, hf8⟩
  rw [shown3] at hs8 ⊢
  have HQ8 := Hd.mk (own_fr HQ7.out hf8 (fun j hj => by simp only [Value.ownBlock, Option.some.injEq] at hj; subst hj; exact HG2.out))
  have HS8 := Hd.mk hs8
  have HF8 := Hd.mk (HF7.out.weak hf8 (fun x hx => .inr (HGW.out x hx)))
  have HA8 := Hd.mk (HA7.out.fr hf8 (HNOT.out _ HLA.out))
  have HB8 := Hd.mk (HB7.out.fr hf8 (HNOT.out _ HLB.out))
  clear hs8 hf8
  unfold zeroEn En.v
  go_upto_region 7 with (fail)
  refine wp_name ?_; intro w9 hw9
  have hf9 := alloc_of hw9
  clear hw9
  have HQ9 := Hd.mk (own_fr HQ8.out hf9 (by simp))
  have HS9 := Hd.mk (HS8.out.fr0 hf9)
  have HF9 := Hd.mk (HF8.out.trans hf9)
  have HA9 := Hd.mk (HA8.out.fr hf9 (by simp))
  have HB9 := Hd.mk (HB8.out.fr hf9 (by simp))
  clear hf9
  obtain ⟨r0, r1, r2, r3, r4, r5, r6, rf⟩ := HB9.out.cells7
  go_wp2_with fail
  clear r0 r1 r2 r3 r4 r5 r6 rf
  refine (lookup_calls HS9.out qB 1).mono ?_
  rintro r w10 ⟨rfl, -, hf10⟩
  obtain ⟨s4, hs4⟩ := shown4
  rw [hs4]
  clear hs4
  have HQ10 := Hd.mk (own_fr HQ9.out hf10 (fun j hj => by simp only [Value.ownBlock, Option.some.injEq] at hj; subst hj; exact HG2.out))
  have HF10 := Hd.mk (HF9.out.weak hf10 (fun x hx => .inr (HGW.out x hx)))
  have HA10 := Hd.mk (HA9.out.fr hf10 (HNOT.out _ HLA.out))
  have HB10 := Hd.mk (HB9.out.fr hf10 (HNOT.out _ HLB.out))
  clear hf10
  unfold eB qB En.v
  go_upto_region 8 with (fail)
  refine wp_name ?_; intro w11 hw11
  have hf11 := alloc_of hw11
  have hbz : Blk w11 w10.heap.size 29 [.string ⟨#[1, 98, 0]⟩, .int .u16 1, .int .u16 1, .slice none 0 0, .int .i64 0, .int .i64 3, .int .u64 9] := blk_of (c := [.string ⟨#[1, 98, 0]⟩, .int .u16 1, .int .u16 1, .slice none 0 0, .int .i64 0, .int .i64 3, .int .u64 9]) hw11
  clear hw11
  obtain ⟨xz, hxz⟩ : ∃ xz, w10.heap.size = xz := ⟨_, rfl⟩
  rw [hxz] at hbz ⊢
  have HQ2 := Hd.mk (own_fr HQ10.out hf11 (by simp))
  have HF := Hd.mk (HF10.out.trans hf11)
  have HA := Hd.mk (HA10.out.fr hf11 (by simp))
  have HB := Hd.mk (HB10.out.fr hf11 (by simp))
  have HZ := Hd.mk hbz
  clear hf11 hbz hxz
  go_wp2_with fail
  refine wp_region_gs { R := Fr [], R1 := Fr [], gs := [Is (.int .i64 0), Is (.bool true), Is (.bool true), Is (.int .i64 0), Is (.bool true), Is (.bool true), Is (.bool true), Is (.slice none 0 0), Is (.int .i64 0), Is (.bool true), Is (.bool true), Is (.bool true), Is (.slice (some ⟨g2, 0, none⟩) 1 c2), Is (.int .i64 1), Is (.bool true), Is (.bool true), Is (.bool true), Is (.slice (some ⟨g2, 0, none⟩) 1 c2), Is (.pointer (some ⟨g2, 0, none⟩)), Is (.agg #[.string ⟨#[1, 97, 0]⟩, .int .u16 1, .int .u16 1]), Is (.pointer (some ⟨xa, 0, none⟩)), Is (.agg #[.string ⟨#[1, 97, 0]⟩, .int .u16 1, .int .u16 1]), Is (.bool true), Is (.bool true), Is (.bool true), Is (.bool false), Is (.bool true), Is (.bool true), Is (.bool true), Is (.bool true), Is (.bool true), Is (.bool true), Is (.pointer (some ⟨xz, 0, none⟩)), Is (.agg #[.string ⟨#[1, 98, 0]⟩, .int .u16 1, .int .u16 1]), Is (.pointer (some ⟨xb, 0, none⟩)), Is (.agg #[.string ⟨#[1, 98, 0]⟩, .int .u16 1, .int .u16 1]), Is (.bool true), Is (.bool true), Is (.bool true)], ds := [some 41, some 42, some 43, some 44, some 45, some 46, some 47, some 48, some 49, some 50, some 51, some 52, some 53, some 54, some 55, some 56, some 57, some 58, some 59, some 60, some 61, some 62, some 63, some 64, some 65, some 66, some 67, some 68, some 69, some 70, some 71, some 72, some 73, some 74, some 75, some 76, some 77, some 78, some 0], fl := [false, false, false, false, false, false, false, false, false, false, false, false, false, false, false, false, false, false, false, false, false, false, false, false, false, false, false, false, false, false, false, false, false, false, false, false, false, false, false], hs := [], hd := [] } [true, false, false, false, false, false, false, false, false, false, false, false, false, false, false, false, false, false, false, false, false, false, false, false, false, false, false, false, false, false, false, false, false, false, false, false, false, false, false, false, false, true, true, true, true, true, true, true, true, true, true, true, true, true, true, true, true, true, true, true, true, true, true, true, true, true, true, true, true, true, true, true, true, true, true, true, true, true, true] (by kernel_rfl) _ (by kernel_rfl) (by kernel_rfl) (by kernel_rfl) (by kernel_rfl) rfl [] (fun _ _ _ h1 h2 => h1.trans h2) (fun _ _ h => h) (staI (staI (staI (staI (staI (staI (staI (staI (staI (staI (staI (staI (staI (staI (staI (staI (staI (staI (staI (staI (staI (staI (staI (staI (staI (staI (staI (staI (staI (staI (staI (staI (staI (staI (staI (staI (staI (staI (staI sta0))))))))))))))))))))))))))))))))))))))) sth0 (fun _ _ h => h.size) _ (Fr.refl _ _) trivial ?_ ?_
  · refine ⟨?_, ?_, ?_, ?_, ?_, ?_, ?_, ?_, ?_, ?_, ?_, ?_, ?_, ?_, ?_, ?_, ?_, ?_, ?_, ?_, ?_, ?_, ?_, ?_, ?_, ?_, ?_, ?_, ?_, ?_, ?_, ?_, ?_, ?_, ?_, ?_, ?_, ?_, ?_, trivial⟩
    · intro σ w' hR hd
      simp only [fill, Nat.reduceAdd, if_true, Bool.false_eq_true, if_false]
      clear hd
      go_wp2
      exact ⟨Fr.refl _ _, rfl⟩
    · intro σ w' hR hd
      simp only [fill, Nat.reduceAdd, if_true, Bool.false_eq_true, if_false]
      obtain h41 : σ 41 = _ := hd 0 (by decide)
      rw [h41]
      clear h41
      clear hd
      go_wp2
      exact ⟨Fr.refl _ _, rfl⟩
    · intro σ w' hR hd
      simp only [fill, Nat.reduceAdd, if_true, Bool.false_eq_true, if_false]
      obtain h42 : σ 42 = _ := hd 1 (by decide)
      rw [h42]
      clear h42
      clear hd
      go_wp2
      exact ⟨Fr.refl _ _, rfl⟩
    · intro σ w' hR hd
      simp only [fill, Nat.reduceAdd, if_true, Bool.false_eq_true, if_false]
      obtain h43 : σ 43 = _ := hd 2 (by decide)
      rw [h43]
      clear h43
      clear hd
      go_wp2
      exact ⟨Fr.refl _ _, rfl⟩
    · intro σ w' hR hd
      simp only [fill, Nat.reduceAdd, if_true, Bool.false_eq_true, if_false]
      obtain h43 : σ 43 = _ := hd 2 (by decide)
      obtain h44 : σ 44 = _ := hd 3 (by decide)
      rw [h43, h44]
      clear h43 h44
      clear hd
      go_wp2
      exact ⟨Fr.refl _ _, rfl⟩
    · intro σ w' hR hd
      simp only [fill, Nat.reduceAdd, if_true, Bool.false_eq_true, if_false]
      obtain h43 : σ 43 = _ := hd 2 (by decide)
      obtain h45 : σ 45 = _ := hd 4 (by decide)
      rw [h43, h45]
      clear h43 h45
      clear hd
      go_wp2
      exact ⟨Fr.refl _ _, rfl⟩
    · intro σ w' hR hd
      simp only [fill, Nat.reduceAdd, if_true, Bool.false_eq_true, if_false]
      obtain h46 : σ 46 = _ := hd 5 (by decide)
      rw [h46]
      clear h46
      clear hd
      go_wp2
      exact ⟨Fr.refl _ _, rfl⟩
    · intro σ w' hR hd
      simp only [fill, Nat.reduceAdd, if_true, Bool.false_eq_true, if_false]
      obtain h47 : σ 47 = _ := hd 6 (by decide)
      rw [h47]
      clear h47
      clear hd
      go_wp2
      exact ⟨Fr.refl _ _, rfl⟩
    · intro σ w' hR hd
      simp only [fill, Nat.reduceAdd, if_true, Bool.false_eq_true, if_false]
      obtain h47 : σ 47 = _ := hd 6 (by decide)
      obtain h48 : σ 48 = _ := hd 7 (by decide)
      rw [h47, h48]
      clear h47 h48
      clear hd
      go_wp2
      exact ⟨Fr.refl _ _, rfl⟩
    · intro σ w' hR hd
      simp only [fill, Nat.reduceAdd, if_true, Bool.false_eq_true, if_false]
      obtain h47 : σ 47 = _ := hd 6 (by decide)
      obtain h49 : σ 49 = _ := hd 8 (by decide)
      rw [h47, h49]
      clear h47 h49
      clear hd
      go_wp2
      exact ⟨Fr.refl _ _, rfl⟩
    · intro σ w' hR hd
      simp only [fill, Nat.reduceAdd, if_true, Bool.false_eq_true, if_false]
      obtain h47 : σ 47 = _ := hd 6 (by decide)
      obtain h50 : σ 50 = _ := hd 9 (by decide)
      rw [h47, h50]
      clear h47 h50
      clear hd
      go_wp2
      exact ⟨Fr.refl _ _, rfl⟩
    · intro σ w' hR hd
      simp only [fill, Nat.reduceAdd, if_true, Bool.false_eq_true, if_false]
      obtain h51 : σ 51 = _ := hd 10 (by decide)
      rw [h51]
      clear h51
      clear hd
      go_wp2
      exact ⟨Fr.refl _ _, rfl⟩
    · intro σ w' hR hd
      simp only [fill, Nat.reduceAdd, if_true, Bool.false_eq_true, if_false]
      obtain h52 : σ 52 = _ := hd 11 (by decide)
      rw [h52]
      clear h52
      clear hd
      go_wp2
      exact ⟨Fr.refl _ _, rfl⟩
    · intro σ w' hR hd
      simp only [fill, Nat.reduceAdd, if_true, Bool.false_eq_true, if_false]
      obtain h52 : σ 52 = _ := hd 11 (by decide)
      obtain h53 : σ 53 = _ := hd 12 (by decide)
      rw [h52, h53]
      clear h52 h53
      clear hd
      go_wp2
      exact ⟨Fr.refl _ _, rfl⟩
    · intro σ w' hR hd
      simp only [fill, Nat.reduceAdd, if_true, Bool.false_eq_true, if_false]
      obtain h52 : σ 52 = _ := hd 11 (by decide)
      obtain h54 : σ 54 = _ := hd 13 (by decide)
      rw [h52, h54]
      clear h52 h54
      clear hd
      go_wp2
      exact ⟨Fr.refl _ _, rfl⟩
    · intro σ w' hR hd
      simp only [fill, Nat.reduceAdd, if_true, Bool.false_eq_true, if_false]
      obtain h52 : σ 52 = _ := hd 11 (by decide)
      obtain h55 : σ 55 = _ := hd 14 (by decide)
      rw [h52, h55]
      clear h52 h55
      clear hd
      go_wp2
      exact ⟨Fr.refl _ _, rfl⟩
    · intro σ w' hR hd
      simp only [fill, Nat.reduceAdd, if_true, Bool.false_eq_true, if_false]
      obtain h56 : σ 56 = _ := hd 15 (by decide)
      rw [h56]
      clear h56
      clear hd
      go_wp2
      exact ⟨Fr.refl _ _, rfl⟩
    · intro σ w' hR hd
      simp only [fill, Nat.reduceAdd, if_true, Bool.false_eq_true, if_false]
      obtain h57 : σ 57 = _ := hd 16 (by decide)
      rw [h57]
      clear h57
      clear hd
      go_wp2
      exact ⟨Fr.refl _ _, rfl⟩
    · intro σ w' hR hd
      simp only [fill, Nat.reduceAdd, if_true, Bool.false_eq_true, if_false]
      obtain h57 : σ 57 = _ := hd 16 (by decide)
      obtain h58 : σ 58 = _ := hd 17 (by decide)
      rw [h57, h58]
      clear h57 h58
      clear hd
      go_wp2
      exact ⟨Fr.refl _ _, rfl⟩
    · intro σ w' hR hd
      simp only [fill, Nat.reduceAdd, if_true, Bool.false_eq_true, if_false]
      obtain h57 : σ 57 = _ := hd 16 (by decide)
      obtain h59 : σ 59 = _ := hd 18 (by decide)
      rw [h57, h59]
      clear h57 h59
      clear hd
      have hq2 := own_fr HQ2.out ((Fr.drew (Fr.refl [] _)).trans hR) (by simp)
      have y0 := hq2.cellAt 0 (by simp)
      have y1 := hq2.cellAt 1 (by simp)
      have y2 := hq2.cellAt 2 (by simp)
      simp only [List.flatMap_cons, List.flatMap_nil, List.append_nil, Qn.c, qA, List.getElem?_cons_zero, List.getElem?_cons_succ] at y0 y1 y2
      clear hq2
      go_wp2
      exact ⟨Fr.refl _ _, rfl⟩
    · intro σ w' hR hd
      simp only [fill, Nat.reduceAdd, if_true, Bool.false_eq_true, if_false]
      obtain h57 : σ 57 = _ := hd 16 (by decide)
      rw [h57]
      clear h57
      clear hd
      go_wp2
      exact ⟨Fr.refl _ _, rfl⟩
    · intro σ w' hR hd
      simp only [fill, Nat.reduceAdd, if_true, Bool.false_eq_true, if_false]
      obtain h57 : σ 57 = _ := hd 16 (by decide)
      obtain h61 : σ 61 = _ := hd 20 (by decide)
      rw [h57, h61]
      clear h57 h61
      clear hd
      obtain ⟨r0, r1, r2, r3, r4, r5, r6, rf⟩ := (HA.out.fr ((Fr.drew (Fr.refl [] _)).trans hR) (by simp)).cells7
      go_wp2
      exact ⟨Fr.refl _ _, rfl⟩
    · intro σ w' hR hd
      simp only [fill, Nat.reduceAdd, if_true, Bool.false_eq_true, if_false]
      obtain h57 : σ 57 = _ := hd 16 (by decide)
      obtain h60 : σ 60 = _ := hd 19 (by decide)
      obtain h62 : σ 62 = _ := hd 21 (by decide)
      rw [h57, h60, h62]
      clear h57 h60 h62
      clear hd
      go_wp2
      exact ⟨Fr.refl _ _, rfl⟩
    · intro σ w' hR hd
      simp only [fill, Nat.reduceAdd, if_true, Bool.false_eq_true, if_false]
      obtain h57 : σ 57 = _ := hd 16 (by decide)
      obtain h63 : σ 63 = _ := hd 22 (by decide)
      rw [h57, h63]
      clear h57 h63
      clear hd
      go_wp2
      exact ⟨Fr.refl _ _, rfl⟩
    · intro σ w' hR hd
      simp only [fill, Nat.reduceAdd, if_true, Bool.false_eq_true, if_false]
      obtain h64 : σ 64 = _ := hd 23 (by decide)
      rw [h64]
      clear h64
      clear hd
      go_wp2
      exact ⟨Fr.refl _ _, rfl⟩
    · intro σ w' hR hd
      simp only [fill, Nat.reduceAdd, if_true, Bool.false_eq_true, if_false]
      obtain h65 : σ 65 = _ := hd 24 (by decide)
      rw [h65]
      clear h65
      clear hd
      go_wp2
      exact ⟨Fr.refl _ _, rfl⟩
    · intro σ w' hR hd
      simp only [fill, Nat.reduceAdd, if_true, Bool.false_eq_true, if_false]
      obtain h65 : σ 65 = _ := hd 24 (by decide)
      obtain h66 : σ 66 = _ := hd 25 (by decide)
      rw [h65, h66]
      clear h65 h66
      clear hd
      go_wp2
      exact ⟨Fr.refl _ _, rfl⟩
    · intro σ w' hR hd
      simp only [fill, Nat.reduceAdd, if_true, Bool.false_eq_true, if_false]
      obtain h65 : σ 65 = _ := hd 24 (by decide)
      obtain h67 : σ 67 = _ := hd 26 (by decide)
      rw [h65, h67]
      clear h65 h67
      clear hd
      go_wp2
      exact ⟨Fr.refl _ _, rfl⟩
    · intro σ w' hR hd
      simp only [fill, Nat.reduceAdd, if_true, Bool.false_eq_true, if_false]
      obtain h68 : σ 68 = _ := hd 27 (by decide)
      rw [h68]
      clear h68
      clear hd
      go_wp2
      exact ⟨Fr.refl _ _, rfl⟩
    · intro σ w' hR hd
      simp only [fill, Nat.reduceAdd, if_true, Bool.false_eq_true, if_false]
      obtain h69 : σ 69 = _ := hd 28 (by decide)
      rw [h69]
      clear h69
      clear hd
      go_wp2
      exact ⟨Fr.refl _ _, rfl⟩
    · intro σ w' hR hd
      simp only [fill, Nat.reduceAdd, if_true, Bool.false_eq_true, if_false]
      obtain h69 : σ 69 = _ := hd 28 (by decide)
      obtain h70 : σ 70 = _ := hd 29 (by decide)
      rw [h69, h70]
      clear h69 h70
      clear hd
      go_wp2
      exact ⟨Fr.refl _ _, rfl⟩
    · intro σ w' hR hd
      simp only [fill, Nat.reduceAdd, if_true, Bool.false_eq_true, if_false]
      obtain h71 : σ 71 = _ := hd 30 (by decide)
      rw [h71]
      clear h71
      clear hd
      go_wp2
      exact ⟨Fr.refl _ _, rfl⟩
    · intro σ w' hR hd
      simp only [fill, Nat.reduceAdd, if_true, Bool.false_eq_true, if_false]
      obtain h72 : σ 72 = _ := hd 31 (by decide)
      rw [h72]
      clear h72
      clear hd
      go_wp2
      exact ⟨Fr.refl _ _, rfl⟩
    · intro σ w' hR hd
      simp only [fill, Nat.reduceAdd, if_true, Bool.false_eq_true, if_false]
      obtain h72 : σ 72 = _ := hd 31 (by decide)
      obtain h73 : σ 73 = _ := hd 32 (by decide)
      rw [h72, h73]
      clear h72 h73
      clear hd
      obtain ⟨r0, r1, r2, r3, r4, r5, r6, rf⟩ := (HZ.out.fr ((Fr.drew (Fr.refl [] _)).trans hR) (by simp)).cells7
      go_wp2
      exact ⟨Fr.refl _ _, rfl⟩
    · intro σ w' hR hd
      simp only [fill, Nat.reduceAdd, if_true, Bool.false_eq_true, if_false]
      obtain h72 : σ 72 = _ := hd 31 (by decide)
      rw [h72]
      clear h72
      clear hd
      go_wp2
      exact ⟨Fr.refl _ _, rfl⟩
    · intro σ w' hR hd
      simp only [fill, Nat.reduceAdd, if_true, Bool.false_eq_true, if_false]
      obtain h72 : σ 72 = _ := hd 31 (by decide)
      obtain h75 : σ 75 = _ := hd 34 (by decide)
      rw [h72, h75]
      clear h72 h75
      clear hd
      obtain ⟨r0, r1, r2, r3, r4, r5, r6, rf⟩ := (HB.out.fr ((Fr.drew (Fr.refl [] _)).trans hR) (by simp)).cells7
      go_wp2
      exact ⟨Fr.refl _ _, rfl⟩
    · intro σ w' hR hd
      simp only [fill, Nat.reduceAdd, if_true, Bool.false_eq_true, if_false]
      obtain h72 : σ 72 = _ := hd 31 (by decide)
      obtain h74 : σ 74 = _ := hd 33 (by decide)
      obtain h76 : σ 76 = _ := hd 35 (by decide)
      rw [h72, h74, h76]
      clear h72 h74 h76
      clear hd
      go_wp2
      exact ⟨Fr.refl _ _, rfl⟩
    · intro σ w' hR hd
      simp only [fill, Nat.reduceAdd, if_true, Bool.false_eq_true, if_false]
      obtain h72 : σ 72 = _ := hd 31 (by decide)
      obtain h77 : σ 77 = _ := hd 36 (by decide)
      rw [h72, h77]
      clear h72 h77
      clear hd
      go_wp2
      exact ⟨Fr.refl _ _, rfl⟩
    · intro σ w' hR hd
      simp only [fill, Nat.reduceAdd, if_true, Bool.false_eq_true, if_false]
      obtain h78 : σ 78 = _ := hd 37 (by decide)
      rw [h78]
      clear h78
      clear hd
      go_wp2
      exact ⟨Fr.refl _ _, rfl⟩
  · intro σ w3 hR hG hH
    obtain h0 : σ 0 = _ := hG 38 (by decide)
    simp only [fill, Nat.reduceAdd, if_true, Bool.false_eq_true, if_false, h0]
    clear h0
    clear hG
    have hfr := (Fr.drew (Fr.refl [] _)).trans hR
    go_wp2
    go_ret
    exact ⟨rfl, HF.out.trans hfr⟩
end Go.Proofs.Ytjfhdffmlnkooaa
