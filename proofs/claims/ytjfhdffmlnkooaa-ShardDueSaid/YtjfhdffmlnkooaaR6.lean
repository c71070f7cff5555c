import Derived.Test.YtjfhdffmlnkooaaR5
namespace Go.Proofs.Ytjfhdffmlnkooaa
open Go Go.RowKit Go.Proofs.MapL PPM Go.Proofs.YtjfhdffmlnkooaaW.PrintWords

theorem own_apart {w : World} {b b' E E' z z' n n' : Nat} {v v' : Value} {xs xs' : List Value} (h : w.ownsRow b E z v n xs) (h' : w.ownsRow b' E' z' v' n' xs') (hE : E ≠ E') : ∀ k, v.ownBlock = some k → v'.ownBlock ≠ some k := by
  intro k hk hk'
  rcases h.2 with ⟨rfl, -⟩ | ⟨g, cap, cur, rfl, -, hgg, -⟩
  · simp [Value.ownBlock] at hk
  · rcases h'.2 with ⟨rfl, -⟩ | ⟨g', cap', cur', rfl, -, hgg', -⟩
    · simp [Value.ownBlock] at hk'
    · simp only [Value.ownBlock, Option.some.injEq] at hk hk'
      subst hk hk'
      rw [hgg] at hgg'
      simp at hgg'
      exact hE hgg'.2
structure NW (w : World) (N j : Nat) (vx vu vt : Value) : Prop where
  x : w.ownsRow N 29 7 vx j ((List.replicate j zeroEn).flatMap En.c)
  u : w.ownsRow N 4 1 vu j (List.replicate j (.bool false))
  t : w.ownsRow N 4 1 vt j (List.replicate j (.bool false))
  ne : ∀ k, vu.ownBlock = some k → vt.ownBlock ≠ some k
set_option maxRecDepth 100000 in
set_option maxHeartbeats 2000000 in
theorem rnew_calls (n : Nat) (h1 : 1 ≤ n) (h2 : n ≤ 64) (w : World) :
    Calls Try.prog 18 #[.int .i64 n] w fun r w' => ∃ gx cx gu cu gt ct, r = .returned (refV gx cx gu cu gt ct n 0) ∧ RefAt w' gx cx gu cu gt ct (newS n) ∧ Fr [] w w' := by
  go_enter Try.func18, Try.ntmps18
  go_upto_region 2 with (fail)
  refine wp_name ?_; intro w0 hw0
  have hf0 : Fr [] w w0 := by rw [hw0]; exact ((Fr.refl [] w).alloc _).alloc _
  have hrb : Blk w0 w.heap.size 51 [.slice none 0 0, .slice none 0 0, .slice none 0 0, .int .i64 0] := by rw [hw0]; exact (Blk.new _ _ _).alloc _
  have hsb : Blk w0 (w.heap.size + 1) 51 [.slice none 0 0, .slice none 0 0, .slice none 0 0, .int .i64 0] := by
    rw [hw0]
    have h0 := Blk.new (w.alloc (.cells #[.slice none 0 0, .slice none 0 0, .slice none 0 0, .int .i64 0] 51)) 51 [.slice none 0 0, .slice none 0 0, .slice none 0 0, .int .i64 0]
    simp only [World.size_alloc] at h0
    exact h0
  clear hw0
  obtain ⟨rb, h_rb⟩ : ∃ rb, w.heap.size = rb := ⟨_, rfl⟩
  obtain ⟨sb, h_sb⟩ : ∃ sb, rb + 1 = sb := ⟨_, rfl⟩
  simp only [h_rb, h_sb] at hrb hsb ⊢
  have HWL : Hd (w.heap.size ≤ rb ∧ w.heap.size ≤ sb ∧ rb ≠ sb) := Hd.mk (by omega)
  have HLT : Hd (rb < w0.heap.size ∧ sb < w0.heap.size) := Hd.mk ⟨hrb.lt, hsb.lt⟩
  have HRB := Hd.mk hrb
  have HSB := Hd.mk hsb
  have HF0 := Hd.mk hf0
  clear hrb hsb hf0 h_rb h_sb
  go_wp2_with fail
  go_loopw [4] (fun i wr => ∃ (j : Nat) (vx vu vt : Value), j ≤ n ∧ i = .int .i64 j ∧ Blk wr sb 51 [vx, vu, vt, .int .i64 0] ∧ NW wr w0.heap.size j vx vu vt ∧ Fr [sb] w0 wr) (fun i _ => n - (intOf i).toNat)
  case atStart => exact ⟨0, _, _, _, Nat.zero_le _, rfl, HSB.out, ⟨World.ownsRow_nil _ _ _ _, World.ownsRow_nil _ _ _ _, World.ownsRow_nil _ _ _ _, fun k h => by simp [Value.ownBlock] at h⟩, Fr.refl _ _⟩
  case round =>
    obtain ⟨j, vx, vu, vt, hj, rfl, hb, hn, hfr⟩ := hrel
    have HN := Hd.mk hn
    have HB := Hd.mk hb
    have HFR := Hd.mk hfr
    clear hb hn hfr
    obtain ⟨b0, b1, b2, b3, bf⟩ := HB.out.cells4
    by_cases hjn : j < n
    · have hbz : w0.heap.size ≤ wr.heap.size := HFR.out.size
      have hx := HN.out.x
      have hsbx : ∀ v k, (∃ E z xs m, wr.ownsRow w0.heap.size E z v m xs) → v.ownBlock = some k → k ≠ sb := fun v k ⟨E, z, xs, m, h⟩ hk => by have := (h.lt k hk).1; have := HLT.out.2; omega
      have HSX := Hd.mk hsbx
      clear hsbx
      go_upto_region 6 with (at_builtin; refine wpList_app1s elE rfl (.tmp 12) (.tmp 14) rfl hx rfl zeroEn.c rfl rfl (by simp [En.c, zeroEn, Value.oneCell']) (by omega) (by omega) hbz ?_; intro g1 c1 w1 ho1 hf1 hb1 hg1 hor1; have q1 := HB.out.fr hf1 (fun hx2 => HSX.out vx sb ⟨_, _, _, _, hx⟩ (by simpa using hx2) rfl); have HO1 := Hd.mk ho1; have HF1 := Hd.mk hf1; have HQ1 := Hd.mk q1; have HGB1 := Hd.mk hb1; clear b0 b1 b2 b3 bf; obtain ⟨b0, b1, b2, b3, bf⟩ := q1.cells4; clear ho1 hf1 hb1 hg1 hor1 q1)
      clear b0 b1 b2 b3 bf
      refine wp_name ?_; intro w2 hw2
      have f2 : Fr [sb] w1 w2 := by rw [hw2]; exact fr_set
      have hb2 : Blk w2 sb 51 [.slice (some ⟨g1, 0, none⟩) (j + 1) c1, vu, vt, .int .i64 0] := by rw [hw2]; simpa using HQ1.out.set 0 (.slice (some ⟨g1, 0, none⟩) (j + 1) c1)
      clear hw2
      have z1 := HF1.out.size
      have zs := HLT.out.2
      have n1 : g1 ≠ sb := by have := HGB1.out; omega
      have hx2 := own_fr HO1.out f2 (by simpa [Value.ownBlock] using n1)
      have hu1 := own_fr HN.out.u HF1.out (fun k hk hx2 => own_apart hx HN.out.u (by decide) k (by simpa using hx2) hk)
      have ht1 := own_fr HN.out.t HF1.out (fun k hk hx2 => own_apart hx HN.out.t (by decide) k (by simpa using hx2) hk)
      have hu2 := own_fr hu1 f2 (fun k hk hx2 => HSX.out vu k ⟨_, _, _, _, HN.out.u⟩ hk (by simpa using hx2))
      have ht2 := own_fr ht1 f2 (fun k hk hx2 => HSX.out vt k ⟨_, _, _, _, HN.out.t⟩ hk (by simpa using hx2))
      have HX2 := Hd.mk hx2
      have HT2 := Hd.mk ht2
      have HB2 := Hd.mk hb2
      have HFX := Hd.mk ((HFR.out.weak HF1.out (fun x hx2 => .inr (hx.lt x (by simpa using hx2)).1)).trans f2)
      have hbz2 : w0.heap.size ≤ w2.heap.size := by have := f2.size; omega
      clear hx hx2 hu1 ht1 ht2 hb2 f2 HO1 HF1 HQ1
      obtain ⟨b0, b1, b2, b3, bf⟩ := HB2.out.cells4
      go_upto_region 7 with (at_builtin; refine wpList_app1s elB rfl (.tmp 18) (.tmp 19) rfl hu2 rfl [.bool false] rfl rfl (by simp [Value.oneCell']) (by omega) (by omega) hbz2 ?_; intro g2 c2 w3 ho3 hf3 hb3 hg3 hor3; have q3 := HB2.out.fr hf3 (fun hx2 => HSX.out vu sb ⟨_, _, _, _, HN.out.u⟩ (by simpa using hx2) rfl); have HO3 := Hd.mk ho3; have HF3 := Hd.mk hf3; have HQ3 := Hd.mk q3; have HG3 := Hd.mk (And.intro hb3 hg3); have HOR3 := Hd.mk hor3; clear b0 b1 b2 b3 bf; obtain ⟨b0, b1, b2, b3, bf⟩ := q3.cells4; clear ho3 hf3 hb3 hg3 hor3 q3)
      clear b0 b1 b2 b3 bf
      refine wp_name ?_; intro w4 hw4
      have f4 : Fr [sb] w3 w4 := by rw [hw4]; exact fr_set
      have hb4 : Blk w4 sb 51 [.slice (some ⟨g1, 0, none⟩) (j + 1) c1, .slice (some ⟨g2, 0, none⟩) (j + 1) c2, vt, .int .i64 0] := by rw [hw4]; simpa using HQ3.out.set 1 (.slice (some ⟨g2, 0, none⟩) (j + 1) c2)
      clear hw4
      have n2 : g2 ≠ sb := by have := HG3.out.1; omega
      have hx3 := own_fr HX2.out HF3.out (fun k hk hx2 => own_apart hu2 HX2.out (by decide) k (by simpa using hx2) hk)
      have hx4 := own_fr hx3 f4 (by simpa [Value.ownBlock] using n1)
      have hu4 := own_fr HO3.out f4 (by simpa [Value.ownBlock] using n2)
      have ht3 := own_fr HT2.out HF3.out (fun k hk hx2 => HN.out.ne k (by simpa using hx2) hk)
      have ht4 := own_fr ht3 f4 (fun k hk hx2 => HSX.out vt k ⟨_, _, _, _, HN.out.t⟩ hk (by simpa using hx2))
      have HX4 := Hd.mk hx4
      have HU4 := Hd.mk hu4
      have HB4 := Hd.mk hb4
      have HFY := Hd.mk ((HFX.out.weak HF3.out (fun x hx2 => .inr (HN.out.u.lt x (by simpa using hx2)).1)).trans f4)
      have hbz4 : w0.heap.size ≤ w4.heap.size := by have := f4.size; have := HF3.out.size; omega
      have HNG : Hd (vt.ownBlock ≠ some g2) := Hd.mk fun h => by
        rcases HOR3.out with h3 | h3
        · exact HN.out.ne g2 h3 h
        · have := (HT2.out.lt g2 h).2; omega
      have HS4 := Hd.mk f4.size
      clear hx3 hx4 hu4 ht3 hb4 f4 hu2 HX2 HT2 HB2 HO3 HF3 HQ3 HFX hbz2 z1
      obtain ⟨b0, b1, b2, b3, bf⟩ := HB4.out.cells4
      go_upto_region 4 with (at_builtin; refine wpList_app1s elB rfl (.tmp 23) (.tmp 24) rfl ht4 rfl [.bool false] rfl rfl (by simp [Value.oneCell']) (by omega) (by omega) hbz4 ?_; intro g3 c3 w5 ho5 hf5 hb5 hg5 hor5; have q5 := HB4.out.fr hf5 (fun hx2 => HSX.out vt sb ⟨_, _, _, _, HN.out.t⟩ (by simpa using hx2) rfl); have HO5 := Hd.mk ho5; have HF5 := Hd.mk hf5; have HQ5 := Hd.mk q5; have HG5 := Hd.mk (And.intro hb5 hg5); have HOR5 := Hd.mk hor5; clear b0 b1 b2 b3 bf; obtain ⟨b0, b1, b2, b3, bf⟩ := q5.cells4; clear ho5 hf5 hb5 hg5 hor5 q5)
      clear b0 b1 b2 b3 bf
      refine wp_name ?_; intro w6 hw6
      have f6 : Fr [sb] w5 w6 := by rw [hw6]; exact fr_set
      have hb6 : Blk w6 sb 51 [.slice (some ⟨g1, 0, none⟩) (j + 1) c1, .slice (some ⟨g2, 0, none⟩) (j + 1) c2, .slice (some ⟨g3, 0, none⟩) (j + 1) c3, .int .i64 0] := by rw [hw6]; simpa using HQ5.out.set 2 (.slice (some ⟨g3, 0, none⟩) (j + 1) c3)
      clear hw6
      have n3 : g3 ≠ sb := by have := HG5.out.1; omega
      have hx5 := own_fr HX4.out HF5.out (fun k hk hx2 => own_apart ht4 HX4.out (by decide) k (by simpa using hx2) hk)
      have hu5 := own_fr HU4.out HF5.out (fun k hk hx2 => by
        simp only [Value.ownBlock, Option.some.injEq] at hk
        subst hk
        exact HNG.out (by simpa using hx2))
      have HX6 := Hd.mk (own_fr hx5 f6 (by simpa [Value.ownBlock] using n1))
      have HU6 := Hd.mk (own_fr hu5 f6 (by simpa [Value.ownBlock] using n2))
      have HT6 := Hd.mk (own_fr HO5.out f6 (by simpa [Value.ownBlock] using n3))
      have HB6 := Hd.mk hb6
      have HF6 := Hd.mk ((HFY.out.weak HF5.out (fun x hx2 => .inr (HN.out.t.lt x (by simpa using hx2)).1)).trans f6)
      have HNE : Hd (g2 ≠ g3) := Hd.mk fun e => by
        rcases HOR5.out with h5 | h5
        · exact HNG.out (by rw [e]; exact h5)
        · have := HG3.out.2; have := HS4.out; omega
      clear hx5 hu5 hb6 f6
      go_wp2
      go_roundw
      case rel =>
        refine ⟨j + 1, _, _, _, by omega, by go_num, HB6.out, ⟨?_, ?_, ?_, fun k hk h => ?_⟩, HF6.out⟩
        · have e : (List.replicate (j + 1) zeroEn).flatMap En.c = (List.replicate j zeroEn).flatMap En.c ++ zeroEn.c := by rw [List.replicate_succ', List.flatMap_append]; simp
          rw [e]; exact HX6.out
        · rw [List.replicate_succ']; exact HU6.out
        · rw [List.replicate_succ']; exact HT6.out
        · simp only [Value.ownBlock, Option.some.injEq] at hk h
          exact HNE.out (hk.trans h.symm)
      case measure => simp [intOf]; omega
    · have hje : j = n := by omega
      subst hje
      obtain ⟨gx, cx, rfl, -, -⟩ := own_form HN.out.x (by omega)
      obtain ⟨gu, cu, rfl, -, -⟩ := own_form HN.out.u (by omega)
      obtain ⟨gt, ct, rfl, -, -⟩ := own_form HN.out.t (by omega)
      have HR := Hd.mk (HRB.out.fr HFR.out (by simpa using HWL.out.2.2))
      obtain ⟨d0, d1, d2, d3, df⟩ := HR.out.cells4
      go_wp2_with fail
      refine ret_name ?_; intro w5 hw5
      obtain ⟨h5, f5⟩ := Blk.four HR.out hw5
      clear b0 b1 b2 b3 bf d0 d1 d2 d3 df hw5
      obtain ⟨y0, y1, y2, y3, -⟩ := h5.cells4
      have hra : RefAt wr gx cx gu cu gt ct (newS j) := ⟨by
        have := own_base HN.out.x (Nat.zero_le _)
        simpa [newS, xsOf, Sl.none, List.map_replicate] using this, by
        have := own_base HN.out.u (Nat.zero_le _)
        simpa [newS, usOf, Sl.none, List.map_replicate] using this, by
        have := own_base HN.out.t (Nat.zero_le _)
        simpa [newS, tsOf, Sl.none, List.map_replicate] using this, by simp [newS]; omega, by simp [newS]; omega⟩
      have hrb := hra.frs f5 (by simpa using own_ne hra.x HR.out (by decide) _ rfl) (by simpa using own_ne hra.u HR.out (by decide) _ rfl) (by simpa using own_ne hra.t HR.out (by decide) _ rfl)
      exact bodyPost_ret (v := refV gx cx gu cu gt ct j 0) (by simp [results, Try.results18, go_sem, y0, y1, y2, y3, refV]) rfl
        ⟨gx, cx, gu, cu, gt, ct, rfl, hrb, (HF0.out.weak HFR.out (by simp; exact HWL.out.2.1)).weak f5 (by simp; exact HWL.out.1)⟩
end Go.Proofs.Ytjfhdffmlnkooaa
