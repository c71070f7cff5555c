import Derived.Test.YtjfhdffmlnkooaaRV
namespace Go.Proofs.Ytjfhdffmlnkooaa
open Go Go.RowKit Go.Proofs.MapL PPM Go.Proofs.YtjfhdffmlnkooaaW.PrintWords

set_option maxRecDepth 100000 in
set_option maxHeartbeats 8000000 in
theorem rinsert_calls {w : World} {gx cx gu cu gt ct : Nat} {s : SS} (h : RefAt w gx cx gu cu gt ct s) (e : En) (now : Int) :
    Calls Try.prog 38 #[refV gx cx gu cu gt ct s.l.length s.hand, e.v, .int .u64 now] w fun r w' => ∃ gx cx gu cu gt ct v, r = .returned (.tuple #[refV gx cx gu cu gt ct (insR s e now).1.l.length (insR s e now).1.hand, v, .int .i64 (insR s e now).2.2]) ∧ RefAt w' gx cx gu cu gt ct (insR s e now).1 ∧ QRow w' w.heap.size v (insR s e now).2.1 ∧ Fr [] w w' := by
  have H := Hd.mk h
  clear h
  unfold refV En.v
  go_enter Try.func38, Try.ntmps38
  go_upto_region 1 with (fail)
  refine wp_name ?_; intro w0 hw0
  have hf0 : Fr [] w w0 := by rw [hw0]; exact (((Fr.refl [] w).alloc _).alloc _).alloc _
  have hsb0 : Blk w0 (w.heap.size) 51 [.slice (some ⟨gx, 0, none⟩) s.l.length cx, .slice (some ⟨gu, 0, none⟩) s.l.length cu, .slice (some ⟨gt, 0, none⟩) s.l.length ct, .int .i64 s.hand] := by
    rw [hw0]
    have h0 := ((Blk.new (w) 51 [.slice (some ⟨gx, 0, none⟩) s.l.length cx, .slice (some ⟨gu, 0, none⟩) s.l.length cu, .slice (some ⟨gt, 0, none⟩) s.l.length ct, .int .i64 s.hand]).alloc (.cells #[.string e.q.name, .int .u16 e.q.ty, .int .u16 e.q.cl, .slice e.ra e.rn e.rc, .int .i64 e.rcode, .int .i64 e.rank, .int .u64 e.expire] 29)).alloc (.cells #[.slice none 0 0, .slice none 0 0, .slice none 0 0, .int .i64 0] 51)
    exact h0
  have heb0 : Blk w0 (w.heap.size + 1) 29 [.string e.q.name, .int .u16 e.q.ty, .int .u16 e.q.cl, .slice e.ra e.rn e.rc, .int .i64 e.rcode, .int .i64 e.rank, .int .u64 e.expire] := by
    rw [hw0]
    have h0 := (Blk.new ((w).alloc (.cells #[.slice (some ⟨gx, 0, none⟩) s.l.length cx, .slice (some ⟨gu, 0, none⟩) s.l.length cu, .slice (some ⟨gt, 0, none⟩) s.l.length ct, .int .i64 s.hand] 51)) 29 [.string e.q.name, .int .u16 e.q.ty, .int .u16 e.q.cl, .slice e.ra e.rn e.rc, .int .i64 e.rcode, .int .i64 e.rank, .int .u64 e.expire]).alloc (.cells #[.slice none 0 0, .slice none 0 0, .slice none 0 0, .int .i64 0] 51)
    simp only [World.size_alloc] at h0
    exact h0
  have hrb0 : Blk w0 (w.heap.size + 1 + 1) 51 [.slice none 0 0, .slice none 0 0, .slice none 0 0, .int .i64 0] := by
    rw [hw0]
    have h0 := Blk.new (((w).alloc (.cells #[.slice (some ⟨gx, 0, none⟩) s.l.length cx, .slice (some ⟨gu, 0, none⟩) s.l.length cu, .slice (some ⟨gt, 0, none⟩) s.l.length ct, .int .i64 s.hand] 51)).alloc (.cells #[.string e.q.name, .int .u16 e.q.ty, .int .u16 e.q.cl, .slice e.ra e.rn e.rc, .int .i64 e.rcode, .int .i64 e.rank, .int .u64 e.expire] 29)) 51 [.slice none 0 0, .slice none 0 0, .slice none 0 0, .int .i64 0]
    simp only [World.size_alloc] at h0
    exact h0
  clear hw0
  obtain ⟨sb, h_sb⟩ : ∃ sb, w.heap.size = sb := ⟨_, rfl⟩
  obtain ⟨eb, h_eb⟩ : ∃ eb, sb + 1 = eb := ⟨_, rfl⟩
  obtain ⟨rb, h_rb⟩ : ∃ rb, eb + 1 = rb := ⟨_, rfl⟩
  simp only [h_sb, h_eb, h_rb] at hsb0 heb0 hrb0 ⊢
  have HWL : Hd (w.heap.size ≤ sb ∧ w.heap.size ≤ eb ∧ w.heap.size ≤ rb) := Hd.mk (by omega)
  have HNE : Hd (sb ≠ eb ∧ sb ≠ rb ∧ eb ≠ rb) := Hd.mk (by omega)
  have HLT : Hd (sb < w0.heap.size ∧ eb < w0.heap.size ∧ rb < w0.heap.size) := Hd.mk (by have := hsb0.lt; have := heb0.lt; have := hrb0.lt; omega)
  have HSB := Hd.mk hsb0
  have HEB := Hd.mk heb0
  have HRB := Hd.mk hrb0
  have H0 := Hd.mk (H.out.fr hf0)
  have HF0 := Hd.mk hf0
  have hl64 := H.out.len
  have hhd := H.out.hand
  clear hf0 hsb0 h_sb heb0 h_eb hrb0 h_rb
  have HSB1 := HSB
  have HEB1 := HEB
  obtain ⟨r0, r1, r2, r3, r4, r5, r6, rf⟩ := HEB.out.cells7
  obtain ⟨b0, b1, b2, b3, bf⟩ := HSB.out.cells4
  cases hlv : liveB e.expire now with
  | false =>
    have HI : Hd (insR s e now = (s, [], 4)) := Hd.mk (by unfold insR; rw [hlv]; rfl)
    have hle : decide (e.expire ≤ now) = true := by unfold liveB at hlv; simpa using hlv
    clear hlv
    obtain ⟨d0, d1, d2, d3, df⟩ := HRB.out.cells4
    go_wp2_with fail
    refine ret_name ?_; intro w5 hw5
    obtain ⟨h5, f5⟩ := Blk.four HRB.out hw5
    clear d0 d1 d2 d3 df hw5
    obtain ⟨y0, y1, y2, y3, -⟩ := h5.cells4
    have hra := H0.out.frs f5 (by simpa using own_ne H0.out.x HRB.out (by decide) _ rfl) (by simpa using own_ne H0.out.u HRB.out (by decide) _ rfl) (by simpa using own_ne H0.out.t HRB.out (by decide) _ rfl)
    exact bodyPost_ret (v := .tuple #[refV gx cx gu cu gt ct s.l.length s.hand, .slice none 0 0, .int .i64 4]) (by simp [results, Try.results38, go_sem, y0, y1, y2, y3, refV]) rfl ⟨gx, cx, gu, cu, gt, ct, _, by rw [HI.out]; exact rfl, by rw [HI.out]; exact hra, by rw [HI.out]; exact World.ownsRow_nil _ _ _ _, HF0.out.weak f5 (by simp; exact HWL.out.2.2)⟩
  | true =>
  have hle : decide (e.expire ≤ now) = false := by unfold liveB at hlv; simpa using hlv
  have HLV := Hd.mk hlv
  clear hlv
  go_wp2_with fail
  clear b0 b1 b2 b3 bf r0 r1 r2 r3 r4 r5 r6 rf hle
  refine (rat_calls H0.out e.q).mono ?_
  rintro r w1 ⟨rfl, hf1⟩
  have HF1 := Hd.mk (HF0.out.trans hf1)
  have HSB1 := Hd.mk (HSB.out.fr hf1 (by simp))
  have HEB1 := Hd.mk (HEB.out.fr hf1 (by simp))
  have HRB1 := Hd.mk (HRB.out.fr hf1 (by simp))
  have H1 := Hd.mk (H0.out.fr hf1)
  clear hf1
  cases hf : s.find e.q with
  | some k =>
    obtain ⟨a, hk, hu, -⟩ := sfind_some hf
    have HKL := Hd.mk (List.getElem?_eq_some_iff.1 hk).1
    have hv : ratV s e.q = (k : Int) := by unfold ratV; rw [hf]; rfl
    rw [hv]
    have hlk : insR s e now = if beatsB a.x e now then (s.at k ⟨e, true, true⟩, [], 0) else (s, [], 7) := by unfold insR; rw [if_pos HLV.out, hf]; simp only [hk]
    have HI0 := Hd.mk hlk
    have HK := Hd.mk hk
    obtain ⟨bt, hbt⟩ : ∃ bt, beatsB a.x e now = bt := ⟨_, rfl⟩
    have HBT := Hd.mk hbt
    have hge : decide ((k : Int) ≥ 0) = true := decide_eq_true (by omega)
    clear hf hk hu hv hlk hbt
    go_wp2_with fail
    refine wp_region_gs { R := Fr [], R1 := Fr [], gs := [Is (.pointer (some ⟨sb, 0, none⟩)), Is (.slice (some ⟨gx, 0, none⟩) s.l.length cx), Is (.int .i64 k), Is (.pointer (some ⟨gx, k * 7, none⟩)), Is (.agg #[.string a.x.q.name, .int .u16 a.x.q.ty, .int .u16 a.x.q.cl, .slice a.x.ra a.x.rn a.x.rc, .int .i64 a.x.rcode, .int .i64 a.x.rank, .int .u64 a.x.expire]), Is (.agg #[.string e.q.name, .int .u16 e.q.ty, .int .u16 e.q.cl, .slice e.ra e.rn e.rc, .int .i64 e.rcode, .int .i64 e.rank, .int .u64 e.expire]), Is (.int .u64 now), Is (.bool bt), Is (.bool (!bt))], ds := [some 25, some 26, some 27, some 28, some 29, some 30, some 31, some 32, some 33], fl := [false, false, false, false, false, false, false, false, false], hs := [], hd := [] } [false, false, false, false, false, false, false, false, false, false, false, false, false, false, false, false, false, false, false, false, false, false, false, false, false, true, true, true, true, true, true, true, true, true, false, false, false, false, false, false, false, false, false, false, false, false, false, false, false, false, false, false, false, false, false, false, false, false, false, false, false, false, false, false, false, false, false, false, false, false, false, false, false, false, false, false, false, false] (by kernel_rfl) _ (by kernel_rfl) (by kernel_rfl) (by kernel_rfl) (by kernel_rfl) rfl [] (fun _ _ _ h1 h2 => h1.trans h2) (fun _ _ h => h) (staI (staI (staI (staI (staI (staI (staI (staI (staI sta0))))))))) sth0 (fun _ _ h => h.size) _ (Fr.refl _ _) trivial ?_ ?_
    · refine ⟨?_, ?_, ?_, ?_, ?_, ?_, ?_, ?_, ?_, trivial⟩
      · intro σ w' hR hd
        simp only [fill, Nat.reduceAdd, if_true, Bool.false_eq_true, if_false]
        clear hd
        go_wp2
        exact ⟨Fr.refl _ _, rfl⟩
      · intro σ w' hR hd
        simp only [fill, Nat.reduceAdd, if_true, Bool.false_eq_true, if_false]
        obtain h25 : σ 25 = _ := hd 0 (by decide)
        rw [h25]
        clear h25
        clear hd
        obtain ⟨b0, b1, b2, b3, bf⟩ := (HSB1.out.fr ((Fr.drew (Fr.refl [] _)).trans hR) (by simp)).cells4
        go_wp2
        exact ⟨Fr.refl _ _, rfl⟩
      · intro σ w' hR hd
        simp only [fill, Nat.reduceAdd, if_true, Bool.false_eq_true, if_false]
        clear hd
        go_wp2
        exact ⟨Fr.refl _ _, rfl⟩
      · intro σ w' hR hd
        simp only [fill, Nat.reduceAdd, if_true, Bool.false_eq_true, if_false]
        obtain h26 : σ 26 = _ := hd 1 (by decide)
        obtain h27 : σ 27 = _ := hd 2 (by decide)
        rw [h26, h27]
        clear h26 h27
        clear hd
        have hkl := HKL.out
        go_wp2
        exact ⟨Fr.refl _ _, rfl⟩
      · intro σ w' hR hd
        simp only [fill, Nat.reduceAdd, if_true, Bool.false_eq_true, if_false]
        obtain h28 : σ 28 = _ := hd 3 (by decide)
        rw [h28]
        clear h28
        clear hd
        have hra := H1.out.fr ((Fr.drew (Fr.refl [] _)).trans hR)
        have z0 := hra.ent HK.out 0 _ (by omega) rfl
        have z1 := hra.ent HK.out 1 _ (by omega) rfl
        have z2 := hra.ent HK.out 2 _ (by omega) rfl
        have z3 := hra.ent HK.out 3 _ (by omega) rfl
        have z4 := hra.ent HK.out 4 _ (by omega) rfl
        have z5 := hra.ent HK.out 5 _ (by omega) rfl
        have z6 := hra.ent HK.out 6 _ (by omega) rfl
        rw [Nat.add_zero] at z0
        go_wp2
        exact ⟨Fr.refl _ _, rfl⟩
      · intro σ w' hR hd
        simp only [fill, Nat.reduceAdd, if_true, Bool.false_eq_true, if_false]
        clear hd
        obtain ⟨r0, r1, r2, r3, r4, r5, r6, rf⟩ := (HEB1.out.fr ((Fr.drew (Fr.refl [] _)).trans hR) (by simp)).cells7
        go_wp2
        exact ⟨Fr.refl _ _, rfl⟩
      · intro σ w' hR hd
        simp only [fill, Nat.reduceAdd, if_true, Bool.false_eq_true, if_false]
        clear hd
        go_wp2
        exact ⟨Fr.refl _ _, rfl⟩
      · intro σ w' hR hd
        simp only [fill, Nat.reduceAdd, if_true, Bool.false_eq_true, if_false]
        obtain h29 : σ 29 = _ := hd 4 (by decide)
        obtain h30 : σ 30 = _ := hd 5 (by decide)
        obtain h31 : σ 31 = _ := hd 6 (by decide)
        rw [h29, h30, h31]
        clear h29 h30 h31
        clear hd
        go_wp2_with fail
        refine (rbeats_calls a.x e now _).mono ?_
        rintro r w4 ⟨rfl, hf4⟩
        have HF4 := Hd.mk hf4
        clear hf4
        rw [HBT.out]
        go_wp2
        exact ⟨HF4.out, rfl⟩
      · intro σ w' hR hd
        simp only [fill, Nat.reduceAdd, if_true, Bool.false_eq_true, if_false]
        obtain h32 : σ 32 = _ := hd 7 (by decide)
        rw [h32]
        clear h32
        clear hd
        go_wp2
        exact ⟨Fr.refl _ _, rfl⟩
    · intro σ w3 hR hG hH
      obtain h33 : σ 33 = _ := hG 8 (by decide)
      simp only [fill, Nat.reduceAdd, if_true, Bool.false_eq_true, if_false, h33]
      clear h33
      clear hG
      have HF2 := Hd.mk (HF1.out.trans ((Fr.drew (Fr.refl [] _)).trans hR))
      have HSB2 := Hd.mk (HSB1.out.fr ((Fr.drew (Fr.refl [] _)).trans hR) (by simp))
      have HEB2 := Hd.mk (HEB1.out.fr ((Fr.drew (Fr.refl [] _)).trans hR) (by simp))
      have HRB2 := Hd.mk (HRB1.out.fr ((Fr.drew (Fr.refl [] _)).trans hR) (by simp))
      have H2 := Hd.mk (H1.out.fr ((Fr.drew (Fr.refl [] _)).trans hR))
      clear hR hH
      obtain ⟨b0, b1, b2, b3, bf⟩ := HSB2.out.cells4
      cases bt with
      | false =>
        have HI : Hd (insR s e now = (s, [], 7)) := Hd.mk (by rw [HI0.out, HBT.out]; rfl)
        obtain ⟨d0, d1, d2, d3, df⟩ := HRB2.out.cells4
        go_wp2_with fail
        refine ret_name ?_; intro w5 hw5
        obtain ⟨h5, f5⟩ := Blk.four HRB2.out hw5
        clear d0 d1 d2 d3 df hw5
        obtain ⟨y0, y1, y2, y3, -⟩ := h5.cells4
        have hra := H2.out.frs f5 (by simpa using own_ne H2.out.x HRB2.out (by decide) _ rfl) (by simpa using own_ne H2.out.u HRB2.out (by decide) _ rfl) (by simpa using own_ne H2.out.t HRB2.out (by decide) _ rfl)
        exact bodyPost_ret (v := .tuple #[refV gx cx gu cu gt ct s.l.length s.hand, .slice none 0 0, .int .i64 7]) (by simp [results, Try.results38, go_sem, y0, y1, y2, y3, refV]) rfl ⟨gx, cx, gu, cu, gt, ct, _, by rw [HI.out]; exact rfl, by rw [HI.out]; exact hra, by rw [HI.out]; exact World.ownsRow_nil _ _ _ _, HF2.out.weak f5 (by simp; exact HWL.out.2.2)⟩
      | true =>
        have HI : Hd (insR s e now = (s.at k ⟨e, true, true⟩, [], 0)) := Hd.mk (by rw [HI0.out, HBT.out]; rfl)
        have hkl := HKL.out
        obtain ⟨r0, r1, r2, r3, r4, r5, r6, rf⟩ := HEB2.out.cells7
        go_wp2_with fail
        clear b0 b1 b2 b3 bf r0 r1 r2 r3 r4 r5 r6 rf
        refine (with_any H2.out k hkl e true true).mono ?_
        rintro r w4 ⟨gx', cx', gu', cu', gt', ct', rfl, h4, hf4⟩
        have H4 := Hd.mk h4
        have HRB4 := Hd.mk (HRB2.out.fr hf4 (by simp))
        have HF4 := Hd.mk (HF2.out.trans hf4)
        clear h4 hf4
        unfold refV
        obtain ⟨d0, d1, d2, d3, df⟩ := HRB4.out.cells4
        go_wp2_with fail
        refine ret_name ?_; intro w5 hw5
        obtain ⟨h5, f5⟩ := Blk.four HRB4.out hw5
        clear d0 d1 d2 d3 df hw5
        obtain ⟨y0, y1, y2, y3, -⟩ := h5.cells4
        have hra := H4.out.frs f5 (by simpa using own_ne H4.out.x HRB4.out (by decide) _ rfl) (by simpa using own_ne H4.out.u HRB4.out (by decide) _ rfl) (by simpa using own_ne H4.out.t HRB4.out (by decide) _ rfl)
        exact bodyPost_ret (v := .tuple #[refV gx' cx' gu' cu' gt' ct' s.l.length s.hand, .slice none 0 0, .int .i64 0]) (by simp [results, Try.results38, go_sem, y0, y1, y2, y3, refV]) rfl ⟨gx', cx', gu', cu', gt', ct', _, by rw [HI.out]; show _ = Ending.returned (.tuple #[refV _ _ _ _ _ _ (s.at k ⟨e, true, true⟩).l.length _, _, _]); rw [at_len]; exact rfl, by rw [HI.out]; exact hra, by rw [HI.out]; exact World.ownsRow_nil _ _ _ _, HF4.out.weak f5 (by simp; exact HWL.out.2.2)⟩
  | none =>
    have hv : ratV s e.q = -1 := by unfold ratV; rw [hf]; rfl
    rw [hv]
    have HI0 : Hd (insR s e now = ((roomS s now).at (freeK (roomS s now)) ⟨e, true, false⟩, goneQ s now, 0)) := Hd.mk (by unfold insR; rw [if_pos HLV.out, hf])
    have HRF := Hd.mk (roomS_free (now := now) hhd)
    have HKN : Hd ((keysS s).length = s.all.length) := Hd.mk (by unfold keysS; rw [List.length_map])
    have HHD := Hd.mk hhd
    clear hf hv
    obtain ⟨kb, hkb⟩ : ∃ kb, decide ((keysS s).length < s.l.length) = kb := ⟨_, rfl⟩
    have HKB := Hd.mk hkb
    clear hkb
    obtain ⟨b0, b1, b2, b3, bf⟩ := HSB1.out.cells4
    go_wp2_with fail
    clear b0 b1 b2 b3 bf
    refine wp_region_gs { R := Fr [], R1 := Fr [], gs := [Is (.agg #[.slice (some ⟨gx, 0, none⟩) s.l.length cx, .slice (some ⟨gu, 0, none⟩) s.l.length cu, .slice (some ⟨gt, 0, none⟩) s.l.length ct, .int .i64 s.hand]), (fun (v : Value) (w2 : World) => ∃ A c, v = .slice A (keysS s).length c), Is (.int .i64 (keysS s).length), Is (.pointer (some ⟨sb, 0, none⟩)), Is (.slice (some ⟨gx, 0, none⟩) s.l.length cx), Is (.int .i64 s.l.length), Is (.bool kb)], ds := [some 39, some 40, some 41, some 42, some 43, some 44, some 45], fl := [false, false, false, false, false, false, false], hs := [], hd := [] } [false, false, false, false, false, false, false, false, false, false, false, false, false, false, false, false, false, false, false, false, false, false, false, false, false, false, false, false, false, false, false, false, false, false, false, false, false, false, false, true, true, true, true, true, true, true, false, false, false, false, false, false, false, false, false, false, false, false, false, false, false, false, false, false, false, false, false, false, false, false, false, false, false, false, false, false, false, false] (by kernel_rfl) _ (by kernel_rfl) (by kernel_rfl) (by kernel_rfl) (by kernel_rfl) rfl [] (fun _ _ _ h1 h2 => h1.trans h2) (fun _ _ h => h) (staI (sta (fun _ _ _ _ h => h) (staI (staI (staI (staI (staI sta0))))))) sth0 (fun _ _ h => h.size) _ (Fr.refl _ _) trivial ?_ ?_
    · refine ⟨?_, ?_, ?_, ?_, ?_, ?_, ?_, trivial⟩
      · intro σ w' hR hd
        simp only [fill, Nat.reduceAdd, if_true, Bool.false_eq_true, if_false]
        clear hd
        obtain ⟨b0, b1, b2, b3, bf⟩ := (HSB1.out.fr ((Fr.drew (Fr.refl [] _)).trans hR) (by simp)).cells4
        go_wp2
        exact ⟨Fr.refl _ _, rfl⟩
      · intro σ w' hR hd
        simp only [fill, Nat.reduceAdd, if_true, Bool.false_eq_true, if_false]
        obtain h39 : σ 39 = _ := hd 0 (by decide)
        rw [h39]
        clear h39
        clear hd
        have HRA := Hd.mk (H1.out.fr ((Fr.drew (Fr.refl [] _)).trans hR))
        go_wp2_with fail
        refine (rkeys_calls HRA.out).mono ?_
        rintro r w4 ⟨v4, rfl, hq4, hf4⟩
        obtain ⟨Ak, ck, rfl, -⟩ := own_any hq4
        have HF4 := Hd.mk hf4
        clear hf4 hq4
        go_wp2
        exact ⟨HF4.out, _, _, rfl⟩
      · intro σ w' hR hd
        simp only [fill, Nat.reduceAdd, if_true, Bool.false_eq_true, if_false]
        obtain ⟨Ak, ck, hk40⟩ : (fun (v : Value) (w2 : World) => ∃ A c, v = .slice A (keysS s).length c) (σ 40) w' := hd 1 (by decide)
        clear hd
        rw [hk40]
        clear hk40
        go_wp2
        exact ⟨Fr.refl _ _, rfl⟩
      · intro σ w' hR hd
        simp only [fill, Nat.reduceAdd, if_true, Bool.false_eq_true, if_false]
        clear hd
        go_wp2
        exact ⟨Fr.refl _ _, rfl⟩
      · intro σ w' hR hd
        simp only [fill, Nat.reduceAdd, if_true, Bool.false_eq_true, if_false]
        obtain h42 : σ 42 = _ := hd 3 (by decide)
        rw [h42]
        clear h42
        clear hd
        obtain ⟨b0, b1, b2, b3, bf⟩ := (HSB1.out.fr ((Fr.drew (Fr.refl [] _)).trans hR) (by simp)).cells4
        go_wp2
        exact ⟨Fr.refl _ _, rfl⟩
      · intro σ w' hR hd
        simp only [fill, Nat.reduceAdd, if_true, Bool.false_eq_true, if_false]
        obtain h43 : σ 43 = _ := hd 4 (by decide)
        rw [h43]
        clear h43
        clear hd
        go_wp2
        exact ⟨Fr.refl _ _, rfl⟩
      · intro σ w' hR hd
        simp only [fill, Nat.reduceAdd, if_true, Bool.false_eq_true, if_false]
        obtain h41 : σ 41 = _ := hd 2 (by decide)
        obtain h44 : σ 44 = _ := hd 5 (by decide)
        rw [h41, h44]
        clear h41 h44
        clear hd
        go_wp2
        exact ⟨Fr.refl _ _, (congrArg Value.bool HKB.out :)⟩
    · intro σ w3 hR hG hH
      obtain h45 : σ 45 = _ := hG 6 (by decide)
      simp only [fill, Nat.reduceAdd, if_true, Bool.false_eq_true, if_false, h45]
      clear h45
      clear hG
      have HF2 := Hd.mk (HF1.out.trans ((Fr.drew (Fr.refl [] _)).trans hR))
      have HSB2 := Hd.mk (HSB1.out.fr ((Fr.drew (Fr.refl [] _)).trans hR) (by simp))
      have HEB2 := Hd.mk (HEB1.out.fr ((Fr.drew (Fr.refl [] _)).trans hR) (by simp))
      have HRB2 := Hd.mk (HRB1.out.fr ((Fr.drew (Fr.refl [] _)).trans hR) (by simp))
      have H2 := Hd.mk (H1.out.fr ((Fr.drew (Fr.refl [] _)).trans hR))
      clear hR hH
      obtain ⟨b0, b1, b2, b3, bf⟩ := HSB2.out.cells4
      cases kb with
      | true =>
        have hlt : s.all.length < s.l.length := by have h1 := of_decide_eq_true HKB.out; rw [HKN.out] at h1; omega
        have hr : roomS s now = s := by unfold roomS; rw [if_pos hlt]
        have hg : goneQ s now = [] := by unfold goneQ; rw [if_pos hlt]
        have hrf1 := HRF.out
        rw [hr] at hrf1
        have HI : Hd (insR s e now = (s.at (freeK s) ⟨e, true, false⟩, [], 0)) := Hd.mk (by rw [HI0.out, hr, hg])
        have HRF2 := Hd.mk hrf1
        clear hrf1 hr hg hlt
        obtain ⟨r0, r1, r2, r3, r4, r5, r6, rf⟩ := HEB2.out.cells7
        go_wp2_with fail
        clear b0 b1 b2 b3 bf r0 r1 r2 r3 r4 r5 r6 rf
        refine (rput_calls H2.out e HRF2.out).mono ?_
        rintro r w4 ⟨gx', cx', gu', cu', gt', ct', rfl, h4, hf4⟩
        have H4 := Hd.mk h4
        have HRB4 := Hd.mk (HRB2.out.fr hf4 (by simp))
        have HF4 := Hd.mk (HF2.out.trans hf4)
        clear h4 hf4
        unfold refV
        obtain ⟨d0, d1, d2, d3, df⟩ := HRB4.out.cells4
        go_wp2_with fail
        refine ret_name ?_; intro w5 hw5
        obtain ⟨h5, f5⟩ := Blk.four HRB4.out hw5
        clear d0 d1 d2 d3 df hw5
        obtain ⟨y0, y1, y2, y3, -⟩ := h5.cells4
        have hra := H4.out.frs f5 (by simpa using own_ne H4.out.x HRB4.out (by decide) _ rfl) (by simpa using own_ne H4.out.u HRB4.out (by decide) _ rfl) (by simpa using own_ne H4.out.t HRB4.out (by decide) _ rfl)
        exact bodyPost_ret (v := .tuple #[refV gx' cx' gu' cu' gt' ct' s.l.length s.hand, .slice none 0 0, .int .i64 0]) (by simp [results, Try.results38, go_sem, y0, y1, y2, y3, refV]) rfl ⟨gx', cx', gu', cu', gt', ct', _, by rw [HI.out]; show _ = Ending.returned (.tuple #[refV _ _ _ _ _ _ (s.at (freeK s) ⟨e, true, false⟩).l.length _, _, _]); rw [at_len]; exact rfl, by rw [HI.out]; exact hra, by rw [HI.out]; exact World.ownsRow_nil _ _ _ _, HF4.out.weak f5 (by simp; exact HWL.out.2.2)⟩
      | false =>
        have hlt : ¬ s.all.length < s.l.length := by have h1 := of_decide_eq_false HKB.out; rw [HKN.out] at h1; omega
        have HNL := Hd.mk hlt
        clear hlt
        go_wp2_with fail
        clear b0 b1 b2 b3 bf
        refine (radvance_calls H2.out now).mono ?_
        rintro r w4 ⟨gx', cx', gu', cu', gt', ct', v4, rfl, h4, hq4, hf4⟩
        have hdl : (dueS s now).l.length = s.l.length := by unfold dueS; rw [clr_len]
        have hdh : (dueS s now).hand = s.hand := by unfold dueS; rw [clr_hand]
        obtain ⟨A4, c4, rfl, -⟩ := own_any hq4
        have H4 := Hd.mk h4
        have HQ4 := Hd.mk (own_base hq4 HF2.out.size)
        have HSB4 := Hd.mk (HSB2.out.fr hf4 (by simp))
        have HEB4 := Hd.mk (HEB2.out.fr hf4 (by simp))
        have HRB4 := Hd.mk (HRB2.out.fr hf4 (by simp))
        have HS4 := Hd.mk (H2.out.fr hf4)
        have HF4 := Hd.mk (HF2.out.trans hf4)
        rw [hdl, hdh]
        have HDL := Hd.mk (And.intro hdl hdh)
        clear h4 hq4 hf4 hdl hdh
        unfold refV
        go_upto_region 11 with (fail)
        refine wp_name ?_; intro w5 hw5
        have hf5 := alloc_of hw5
        have hxb : Blk w5 w4.heap.size 51 [.slice (some ⟨gx', 0, none⟩) s.l.length cx', .slice (some ⟨gu', 0, none⟩) s.l.length cu', .slice (some ⟨gt', 0, none⟩) s.l.length ct', .int .i64 s.hand] := blk_of (c := [.slice (some ⟨gx', 0, none⟩) s.l.length cx', .slice (some ⟨gu', 0, none⟩) s.l.length cu', .slice (some ⟨gt', 0, none⟩) s.l.length ct', .int .i64 s.hand]) hw5
        clear hw5
        have HXN : Hd (w.heap.size ≤ w4.heap.size ∧ rb ≠ w4.heap.size) := Hd.mk ⟨HF4.out.size, by have := HRB4.out.lt; omega⟩
        obtain ⟨xb, h_xb⟩ : ∃ xb, w4.heap.size = xb := ⟨_, rfl⟩
        have HXE : Hd (eb ≠ xb) := Hd.mk (by have := HEB4.out.lt; omega)
        rw [h_xb] at hxb HXN ⊢
        have HXB5 := Hd.mk hxb
        have H5 := Hd.mk (H4.out.fr hf5)
        have HQ5 := Hd.mk (own_fr HQ4.out hf5 (by simp))
        have HSB5 := Hd.mk (HSB4.out.fr hf5 (by simp))
        have HEB5 := Hd.mk (HEB4.out.fr hf5 (by simp))
        have HRB5 := Hd.mk (HRB4.out.fr hf5 (by simp))
        have HS5 := Hd.mk (HS4.out.fr hf5)
        have HF5 := Hd.mk (HF4.out.trans hf5)
        clear hf5 hxb h_xb
        by_cases hdq : 0 < (dueQ s now).length
        · have hz : (((dueQ s now).length : Int) == 0) = false := by rw [beq_eq_false_iff_ne]; omega
          have hr : roomS s now = dueS s now := by unfold roomS; rw [if_neg HNL.out, if_pos hdq]
          have hg : goneQ s now = dueQ s now := by unfold goneQ; rw [if_neg HNL.out, if_pos hdq]
          have hrf1 := HRF.out
          rw [hr] at hrf1
          have HI : Hd (insR s e now = ((dueS s now).at (freeK (dueS s now)) ⟨e, true, false⟩, dueQ s now, 0)) := Hd.mk (by rw [HI0.out, hr, hg])
          have HRF2 := Hd.mk hrf1
          clear hrf1 hr hg hdq
          obtain ⟨b0, b1, b2, b3, bf⟩ := HXB5.out.cells4
          obtain ⟨r0, r1, r2, r3, r4, r5, r6, rf⟩ := HEB5.out.cells7
          go_wp2_with fail
          clear b0 b1 b2 b3 bf r0 r1 r2 r3 r4 r5 r6 rf hz
          have hp := rput_calls H5.out e HRF2.out
          unfold refV at hp
          rw [HDL.out.1, HDL.out.2] at hp
          refine hp.mono ?_
          rintro r w6 ⟨gy, cy, gv, cv, gw, cw, rfl, h6, hf6⟩
          have H6 := Hd.mk h6
          have HRB6 := Hd.mk (HRB5.out.fr hf6 (by simp))
          have HF6 := Hd.mk (HF5.out.trans hf6)
          have HQ6 := Hd.mk (own_fr HQ5.out hf6 (by simp))
          clear h6 hf6 hp
          obtain ⟨d0, d1, d2, d3, df⟩ := HRB6.out.cells4
          go_wp2_with fail
          refine ret_name ?_; intro w5 hw5
          obtain ⟨h5, f5⟩ := Blk.four HRB6.out hw5
          clear d0 d1 d2 d3 df hw5
          obtain ⟨y0, y1, y2, y3, -⟩ := h5.cells4
          have hra := H6.out.frs f5 (by simpa using own_ne H6.out.x HRB6.out (by decide) _ rfl) (by simpa using own_ne H6.out.u HRB6.out (by decide) _ rfl) (by simpa using own_ne H6.out.t HRB6.out (by decide) _ rfl)
          have hq7 := own_fr HQ6.out f5 (fun y hy hx => by have h1 := own_ne HQ6.out HRB6.out (by decide) y hy; simp at hx; exact h1 hx)
          exact bodyPost_ret (v := .tuple #[refV gy cy gv cv gw cw s.l.length s.hand, .slice A4 (dueQ s now).length c4, .int .i64 0]) (by simp [results, Try.results38, go_sem, y0, y1, y2, y3, refV]) rfl ⟨gy, cy, gv, cv, gw, cw, _, by rw [HI.out]; show _ = Ending.returned (.tuple #[refV _ _ _ _ _ _ ((dueS s now).at (freeK (dueS s now)) ⟨e, true, false⟩).l.length (dueS s now).hand, _, _]); rw [at_len, HDL.out.1, HDL.out.2], by rw [HI.out]; exact hra, by rw [HI.out]; exact hq7, HF6.out.weak f5 (by simp; exact HWL.out.2.2)⟩
        · have hd0 : dueQ s now = [] := List.eq_nil_of_length_eq_zero (by omega)
          have hz : (((dueQ s now).length : Int) == 0) = true := by rw [hd0]; rfl
          have hr : roomS s now = s.victim.1.at s.victim.2.1 Sl.none := by unfold roomS; rw [if_neg HNL.out, if_neg hdq]
          have hg : goneQ s now = [qAt s.victim.1 s.victim.2.1] := by unfold goneQ; rw [if_neg HNL.out, if_neg hdq]
          obtain ⟨s', i, b, hv1, hv2, hvl, hgb, hub, hva, hil⟩ := vic_full HHD.out HNL.out
          rw [hv2] at hr hg
          have hqa : qAt s' i = b.x.q := by unfold qAt; rw [List.getElem?_eq_getElem hil]; simp [(hva _ (List.getElem?_eq_getElem hil)).1]
          have hrf1 := HRF.out
          rw [hr] at hrf1
          have HI : Hd (insR s e now = ((s'.at i Sl.none).at (freeK (s'.at i Sl.none)) ⟨e, true, false⟩, [b.x.q], 0)) := Hd.mk (by rw [HI0.out, hr, hg]; simp only [hqa])
          have HRF2 := Hd.mk hrf1
          have HVIC := Hd.mk hv1
          have HVL := Hd.mk hvl
          have HGB := Hd.mk hgb
          have HIL := Hd.mk hil
          have hisl : i < s.l.length := by omega
          have HISL := Hd.mk hisl
          clear hrf1 hr hg hdq hd0 hv1 hv2 hgb hub hva hqa hisl hvl hil
          obtain ⟨b0, b1, b2, b3, bf⟩ := HSB5.out.cells4
          go_wp2_with fail
          clear b0 b1 b2 b3 bf hz
          refine (rvictim_calls HS5.out (all_used HNL.out) HVIC.out).mono ?_
          rintro r w6 ⟨gy, cy, gv, cv, gw, cw, rfl, h6, hf6⟩
          have H6 := Hd.mk h6
          have HSB6 := Hd.mk (HSB5.out.fr hf6 (by simp))
          have HEB6 := Hd.mk (HEB5.out.fr hf6 (by simp))
          have HRB6 := Hd.mk (HRB5.out.fr hf6 (by simp))
          have HXB6 := Hd.mk (HXB5.out.fr hf6 (by simp))
          have HS6 := Hd.mk (HS5.out.fr hf6)
          have HF6 := Hd.mk (HF5.out.trans hf6)
          clear h6 hf6
          unfold refV
          go_upto_region 13 with (fail)
          refine wp_name ?_; intro w7 hw7
          have hf7 := alloc_of hw7
          have hyb : Blk w7 w6.heap.size 51 [.slice (some ⟨gy, 0, none⟩) s'.l.length cy, .slice (some ⟨gv, 0, none⟩) s'.l.length cv, .slice (some ⟨gw, 0, none⟩) s'.l.length cw, .int .i64 s'.hand] := blk_of (c := [.slice (some ⟨gy, 0, none⟩) s'.l.length cy, .slice (some ⟨gv, 0, none⟩) s'.l.length cv, .slice (some ⟨gw, 0, none⟩) s'.l.length cw, .int .i64 s'.hand]) hw7
          clear hw7
          obtain ⟨yb, h_yb⟩ : ∃ yb, w6.heap.size = yb := ⟨_, rfl⟩
          have HYN : Hd (rb ≠ yb ∧ xb ≠ yb) := Hd.mk ⟨by have := HRB6.out.lt; omega, by have := HXB6.out.lt; omega⟩
          rw [h_yb] at hyb ⊢
          have HYB7 := Hd.mk hyb
          have H7 := Hd.mk (H6.out.fr hf7)
          have HSB7 := Hd.mk (HSB6.out.fr hf7 (by simp))
          have HEB7 := Hd.mk (HEB6.out.fr hf7 (by simp))
          have HRB7 := Hd.mk (HRB6.out.fr hf7 (by simp))
          have HXB7 := Hd.mk (HXB6.out.fr hf7 (by simp))
          have HS7 := Hd.mk (HS6.out.fr hf7)
          have HF7 := Hd.mk (HF6.out.trans hf7)
          clear hyb h_yb hf7
          obtain ⟨b0, b1, b2, b3, bf⟩ := HSB7.out.cells4
          have z0 := HS7.out.ent HGB.out 0 _ (by omega) rfl
          have z1 := HS7.out.ent HGB.out 1 _ (by omega) rfl
          have z2 := HS7.out.ent HGB.out 2 _ (by omega) rfl
          rw [Nat.add_zero] at z0
          have hisl := HISL.out
          go_upto_region 14 with (fail)
          refine wp_name ?_; intro w8 hw8
          have hb8 := blk_of (c := b.x.q.c) hw8
          have hf8 := alloc_of hw8
          clear hw8 b0 b1 b2 b3 bf z0 z1 z2 hisl
          have HQ8 : Hd (QRow w8 w.heap.size (.slice (some ⟨w7.heap.size, 0, none⟩) 1 1) [b.x.q]) := Hd.mk (own_of_blk (n := 1) hb8 HF7.out.size (by simp [Qn.c]) (by decide))
          have H8 := Hd.mk (H7.out.fr hf8)
          have HEB8 := Hd.mk (HEB7.out.fr hf8 (by simp))
          have HRB8 := Hd.mk (HRB7.out.fr hf8 (by simp))
          have HXB8 := Hd.mk (HXB7.out.fr hf8 (by simp))
          have HYB8 := Hd.mk (HYB7.out.fr hf8 (by simp))
          have HF8 := Hd.mk (HF7.out.trans hf8)
          obtain ⟨qb, h_qb⟩ : ∃ qb, w7.heap.size = qb := ⟨_, rfl⟩
          have HQN : Hd (rb ≠ qb ∧ xb ≠ qb) := Hd.mk ⟨by have := HRB7.out.lt; omega, by have := HXB7.out.lt; omega⟩
          rw [h_qb] at HQ8 ⊢
          clear hb8 hf8 h_qb
          obtain ⟨b0, b1, b2, b3, bf⟩ := HYB8.out.cells4
          obtain ⟨d0, d1, d2, d3, df⟩ := HXB8.out.cells4
          go_wp2_with fail
          refine (with_any H8.out i HIL.out zeroEn false false).mono ?_
          rintro r w9 ⟨gx1, cx1, gu1, cu1, gt1, ct1, rfl, h9, hf9⟩
          have H9 := Hd.mk h9
          have HEB9 := Hd.mk (HEB8.out.fr hf9 (by simp))
          have HRB9 := Hd.mk (HRB8.out.fr hf9 (by simp))
          have HXB9 := Hd.mk (HXB8.out.fr hf9 (by simp))
          have HQ9 := Hd.mk (own_fr HQ8.out hf9 (by simp))
          have HF9 := Hd.mk (HF8.out.trans hf9)
          clear h9 hf9 b0 b1 b2 b3 bf d0 d1 d2 d3 df
          obtain ⟨d0, d1, d2, d3, df⟩ := HXB9.out.cells4
          unfold refV
          go_upto_region 15 with (fail)
          refine wp_name ?_; intro w10 hw10
          obtain ⟨hxb10, hf10⟩ := Blk.four HXB9.out hw10
          clear d0 d1 d2 d3 df hw10
          have HXB10 := Hd.mk hxb10
          have H10 := Hd.mk (H9.out.frs hf10 (by simpa using own_ne H9.out.x HXB9.out (by decide) _ rfl) (by simpa using own_ne H9.out.u HXB9.out (by decide) _ rfl) (by simpa using own_ne H9.out.t HXB9.out (by decide) _ rfl))
          have HRB10 := Hd.mk (HRB9.out.fr hf10 (by simpa using HXN.out.2))
          have HEB10 := Hd.mk (HEB9.out.fr hf10 (by simpa using HXE.out))
          have HQ10 := Hd.mk (own_fr HQ9.out hf10 (fun y hy hx => by have h1 := own_ne HQ9.out HXB9.out (by decide) y hy; simp at hx; exact h1 hx))
          have HF10 := Hd.mk (HF9.out.weak hf10 (by simp; exact HXN.out.1))
          clear hxb10 hf10
          obtain ⟨b0, b1, b2, b3, bf⟩ := HXB10.out.cells4
          obtain ⟨r0, r1, r2, r3, r4, r5, r6, rf⟩ := HEB10.out.cells7
          go_wp2_with fail
          clear b0 b1 b2 b3 bf r0 r1 r2 r3 r4 r5 r6 rf
          have hp := rput_calls H10.out e HRF2.out
          unfold refV at hp
          rw [at_len] at hp
          refine hp.mono ?_
          rintro r w11 ⟨gz, cz, gs1, cs1, gq1, cq1, rfl, h11, hf11⟩
          have H11 := Hd.mk h11
          have HRB11 := Hd.mk (HRB10.out.fr hf11 (by simp))
          have HF11 := Hd.mk (HF10.out.trans hf11)
          have HQ11 := Hd.mk (own_fr HQ10.out hf11 (by simp))
          clear h11 hf11 hp
          obtain ⟨d0, d1, d2, d3, df⟩ := HRB11.out.cells4
          go_wp2_with fail
          refine ret_name ?_; intro w5 hw5
          obtain ⟨h5, f5⟩ := Blk.four HRB11.out hw5
          clear d0 d1 d2 d3 df hw5
          obtain ⟨y0, y1, y2, y3, -⟩ := h5.cells4
          have hra := H11.out.frs f5 (by simpa using own_ne H11.out.x HRB11.out (by decide) _ rfl) (by simpa using own_ne H11.out.u HRB11.out (by decide) _ rfl) (by simpa using own_ne H11.out.t HRB11.out (by decide) _ rfl)
          have hq7 := own_fr HQ11.out f5 (fun y hy hx => by have h1 := own_ne HQ11.out HRB11.out (by decide) y hy; simp at hx; exact h1 hx)
          exact bodyPost_ret (v := .tuple #[refV gz cz gs1 cs1 gq1 cq1 s'.l.length (s'.at i Sl.none).hand, .slice (some ⟨qb, 0, none⟩) 1 1, .int .i64 0]) (by simp [results, Try.results38, go_sem, y0, y1, y2, y3, refV, Sl.none]) rfl ⟨gz, cz, gs1, cs1, gq1, cq1, _, by rw [HI.out]; show _ = Ending.returned (.tuple #[refV _ _ _ _ _ _ ((s'.at i Sl.none).at (freeK (s'.at i Sl.none)) ⟨e, true, false⟩).l.length _, _, _]); rw [at_len, at_len]; exact rfl, by rw [HI.out]; exact hra, by rw [HI.out]; exact hq7, HF11.out.weak f5 (by simp; exact HWL.out.2.2)⟩
end Go.Proofs.Ytjfhdffmlnkooaa
