import Derived.Test.YtjfhdffmlnkooaaR7
namespace Go.Proofs.Ytjfhdffmlnkooaa
open Go Go.RowKit Go.Proofs.MapL PPM Go.Proofs.YtjfhdffmlnkooaaW.PrintWords

set_option maxRecDepth 100000 in
set_option maxHeartbeats 8000000 in
theorem radvance_calls {w : World} {gx cx gu cu gt ct : Nat} {s : SS} (h : RefAt w gx cx gu cu gt ct s) (now : Int) :
    Calls Try.prog 41 #[refV gx cx gu cu gt ct s.l.length s.hand, .int .u64 now] w fun r w' => ∃ gx cx gu cu gt ct v, r = .returned (.tuple #[refV gx cx gu cu gt ct (dueS s now).l.length (dueS s now).hand, v]) ∧ RefAt w' gx cx gu cu gt ct (dueS s now) ∧ QRow w' w.heap.size v (dueQ s now) ∧ Fr [] w w' := by
  have H := Hd.mk h
  clear h
  unfold refV
  go_enter Try.func41, Try.ntmps41
  go_upto_region 1 with (fail)
  refine wp_name ?_; intro w0 hw0
  have hf0 : Fr [] w w0 := by rw [hw0]; exact ((Fr.refl [] w).alloc _).alloc _
  have hsb0 : Blk w0 (w.heap.size) 51 [.slice (some ⟨gx, 0, none⟩) s.l.length cx, .slice (some ⟨gu, 0, none⟩) s.l.length cu, .slice (some ⟨gt, 0, none⟩) s.l.length ct, .int .i64 s.hand] := by
    rw [hw0]
    have h0 := (Blk.new (w) 51 [.slice (some ⟨gx, 0, none⟩) s.l.length cx, .slice (some ⟨gu, 0, none⟩) s.l.length cu, .slice (some ⟨gt, 0, none⟩) s.l.length ct, .int .i64 s.hand]).alloc (.cells #[.slice none 0 0, .slice none 0 0, .slice none 0 0, .int .i64 0] 51)
    exact h0
  have hrb0 : Blk w0 (w.heap.size + 1) 51 [.slice none 0 0, .slice none 0 0, .slice none 0 0, .int .i64 0] := by
    rw [hw0]
    have h0 := Blk.new ((w).alloc (.cells #[.slice (some ⟨gx, 0, none⟩) s.l.length cx, .slice (some ⟨gu, 0, none⟩) s.l.length cu, .slice (some ⟨gt, 0, none⟩) s.l.length ct, .int .i64 s.hand] 51)) 51 [.slice none 0 0, .slice none 0 0, .slice none 0 0, .int .i64 0]
    simp only [World.size_alloc] at h0
    exact h0
  clear hw0
  obtain ⟨sb, h_sb⟩ : ∃ sb, w.heap.size = sb := ⟨_, rfl⟩
  obtain ⟨rb, h_rb⟩ : ∃ rb, sb + 1 = rb := ⟨_, rfl⟩
  simp only [h_sb, h_rb] at hsb0 hrb0 ⊢
  have HWL : Hd (w.heap.size ≤ sb ∧ w.heap.size ≤ rb) := Hd.mk (by omega)
  have HNE : Hd (sb ≠ rb) := Hd.mk (by omega)
  have HLT : Hd (sb < w0.heap.size ∧ rb < w0.heap.size) := Hd.mk (by have := hsb0.lt; have := hrb0.lt; omega)
  have HSB := Hd.mk hsb0
  have HRB := Hd.mk hrb0
  have H0 := Hd.mk (H.out.fr hf0)
  have HF0 := Hd.mk hf0
  have hl64 := H.out.len
  have hhd := H.out.hand
  clear hf0 hsb0 h_sb hrb0 h_rb
  obtain ⟨n, hn⟩ : ∃ n, s.l.length = n := ⟨_, rfl⟩
  rw [hn] at HSB hl64 hhd ⊢
  have HN := Hd.mk hn
  clear hn hhd
  go_wp2_with fail
  go_loopg [6] ((dueK s now).length) (fun k o wr => ∃ (t : SS) (gx cx gu cu gt ct : Nat) (K : List Qn), RefAt wr gx cx gu cu gt ct t ∧ Hd (t.l.length = n) ∧ Hd ((dueK t now).length = k ∧ K ++ (dueK t now).map (qAt t) = dueQ s now ∧ clr t (dueK t now) = dueS s now) ∧ QRow wr w0.heap.size o K ∧ Blk wr sb 51 [.slice (some ⟨gx, 0, none⟩) n cx, .slice (some ⟨gu, 0, none⟩) n cu, .slice (some ⟨gt, 0, none⟩) n ct, .int .i64 t.hand] ∧ Blk wr rb 51 [.slice none 0 0, .slice none 0 0, .slice none 0 0, .int .i64 0] ∧ Fr [] w wr ∧ Hd (w0.heap.size ≤ wr.heap.size))
  case atStart => exact ⟨s, gx, cx, gu, cu, gt, ct, [], H0.out, Hd.mk HN.out, Hd.mk ⟨rfl, rfl, rfl⟩, World.ownsRow_nil _ _ _ _, HSB.out, HRB.out, HF0.out, Hd.mk (Nat.le_refl _)⟩
  case round =>
    obtain ⟨t, gx, cx, gu, cu, gt, ct, K, ht, HTN, HINV, hq, hb, hb4, hfr, HSZ⟩ := hrel
    have HT := Hd.mk ht
    have HQ1 := Hd.mk hq
    have HB := Hd.mk hb
    have HRB1 := Hd.mk hb4
    have HF1 := Hd.mk hfr
    clear ht hq hb hb4 hfr
    go_wp2_with fail
    go_loopw [7, 8] (fun kv i wr2 => ∃ j : Nat, j ≤ n ∧ i = .int .i64 j ∧ kv = .int .i64 (optI (bestTo t now j)) ∧ Fr [] wr wr2) (fun _ i _ => n - (intOf i).toNat)
    case atStart => exact ⟨0, Nat.zero_le _, rfl, rfl, Fr.refl _ _⟩
    case round =>
      obtain ⟨j, hj, rfl, rfl, hfi⟩ := hrel
      have HFI := Hd.mk hfi
      have HSB2 := Hd.mk (HB.out.fr hfi (by simp))
      have HT2 := Hd.mk (HT.out.fr hfi)
      clear hfi
      obtain ⟨b0, b1, b2, b3, bf⟩ := HSB2.out.cells4
      by_cases hjn : j < n
      · have hgj : t.l[j]? = some (t.l[j]'(by rw [HTN.out]; exact hjn)) := List.getElem?_eq_getElem _
        obtain ⟨a, ha⟩ : ∃ a, (t.l[j]'(by rw [HTN.out]; exact hjn)) = a := ⟨_, rfl⟩
        rw [ha] at hgj
        have hcu := HT2.out.use hgj
        have HCX := Hd.mk (HT2.out.ent hgj 6 _ (by omega) rfl)
        have HSTEP : Hd (bestTo t now (j + 1) = if a.used && decide (a.x.expire ≤ now) then (match bestTo t now j with | none => some j | some k => if a.x.expire < expAt t k then some j else some k) else bestTo t now j) := Hd.mk (by
          show better t now (bestTo t now j) j = _
          unfold better
          rw [hgj]
          rfl)
        have HBST := Hd.mk (best_to t now j (by rw [HTN.out]; omega))
        clear hgj ha
        obtain ⟨kv, hkv⟩ : ∃ kv, optI (bestTo t now j) = kv := ⟨_, rfl⟩
        have HKV := Hd.mk hkv
        cases hu : a.used with
        | false =>
          rw [hu] at hcu
          have HCU := Hd.mk hcu
          have HE : Hd (bestTo t now (j + 1) = bestTo t now j) := Hd.mk (by rw [HSTEP.out, hu]; rfl)
          rw [hkv]
          clear hcu hu hkv
          go_wp2_with fail
          clear b0 b1 b2 b3 bf
          refine wp_region_gs { R := Fr [], R1 := Fr [], gs := [Is (.pointer (some ⟨sb, 1, none⟩)), Is (.slice (some ⟨gu, 0, none⟩) n cu), Is (.int .i64 j), Is (.pointer (some ⟨gu, j, none⟩)), Is (.bool false), Is (.bool false), No, No, No, No, No, No, No, No, Is (.bool false), Is (.bool false), No, No, Is undef, No, No, No, No, No, No, No, No, No, No, No, No, No, No, Is (.bool false)], ds := [some 16, some 17, some 18, some 19, some 20, some 21, some 22, some 23, some 24, some 25, some 26, some 27, some 28, some 29, some 30, some 31, some 32, some 33, some 34, some 35, some 36, some 37, some 38, some 39, some 40, some 41, some 42, some 43, some 44, some 45, some 46, some 47, some 48, some 49], fl := [false, false, false, false, false, false, false, false, false, false, false, false, false, false, false, false, false, false, false, false, false, false, false, false, false, false, false, false, false, false, false, false, false, false], hs := [], hd := [] } [false, false, false, false, false, false, false, false, false, false, false, false, false, false, false, false, true, true, true, true, true, true, true, true, true, true, true, true, true, true, true, true, true, true, true, true, true, true, true, true, true, true, true, true, true, true, true, true, true, true, false, false, false, false, false, false, false, false, false, false, false, false, false, false, false, false, false, false] (by kernel_rfl) _ (by kernel_rfl) (by kernel_rfl) (by kernel_rfl) (by kernel_rfl) rfl [] (fun _ _ _ h1 h2 => h1.trans h2) (fun _ _ h => h) (staI (staI (staI (staI (staI (staI (staN (staN (staN (staN (staN (staN (staN (staN (staI (staI (staN (staN (staI (staN (staN (staN (staN (staN (staN (staN (staN (staN (staN (staN (staN (staN (staN (staI sta0)))))))))))))))))))))))))))))))))) sth0 (fun _ _ h => h.size) _ (Fr.refl _ _) trivial ?_ ?_
          · refine ⟨?_, ?_, ?_, ?_, ?_, ?_, ?_, ?_, ?_, ?_, ?_, ?_, ?_, ?_, ?_, ?_, ?_, ?_, ?_, ?_, ?_, ?_, ?_, ?_, ?_, ?_, ?_, ?_, ?_, ?_, ?_, ?_, ?_, ?_, trivial⟩
            · intro σ w' hR hd
              simp only [fill, Nat.reduceAdd, if_true, Bool.false_eq_true, if_false]
              clear hd
              go_wp2
              exact ⟨Fr.refl _ _, rfl⟩
            · intro σ w' hR hd
              simp only [fill, Nat.reduceAdd, if_true, Bool.false_eq_true, if_false]
              obtain h16 : σ 16 = _ := hd 0 (by decide)
              rw [h16]
              clear h16
              clear hd
              obtain ⟨b0, b1, b2, b3, bf⟩ := (HSB2.out.fr ((Fr.drew (Fr.refl [] _)).trans hR) (by simp)).cells4
              go_wp2
              exact ⟨Fr.refl _ _, rfl⟩
            · intro σ w' hR hd
              simp only [fill, Nat.reduceAdd, if_true, Bool.false_eq_true, if_false]
              clear hd
              go_wp2
              exact ⟨Fr.refl _ _, rfl⟩
            · intro σ w' hR hd
              simp only [fill, Nat.reduceAdd, if_true, Bool.false_eq_true, if_false]
              obtain h17 : σ 17 = _ := hd 1 (by decide)
              obtain h18 : σ 18 = _ := hd 2 (by decide)
              rw [h17, h18]
              clear h17 h18
              clear hd
              go_wp2
              exact ⟨Fr.refl _ _, rfl⟩
            · intro σ w' hR hd
              simp only [fill, Nat.reduceAdd, if_true, Bool.false_eq_true, if_false]
              obtain h19 : σ 19 = _ := hd 3 (by decide)
              rw [h19]
              clear h19
              clear hd
              have k1 := ((Fr.drew (Fr.refl [] _)).trans hR).cell HCU.out (by simp)
              go_wp2
              exact ⟨Fr.refl _ _, rfl⟩
            · intro σ w' hR hd
              simp only [fill, Nat.reduceAdd, if_true, Bool.false_eq_true, if_false]
              obtain h20 : σ 20 = _ := hd 4 (by decide)
              rw [h20]
              clear h20
              clear hd
              go_wp2
              exact ⟨Fr.refl _ _, rfl⟩
            · intro σ w' hR hd
              simp only [fill, Nat.reduceAdd, if_true, Bool.false_eq_true, if_false]
              obtain h21 : σ 21 = _ := hd 5 (by decide)
              rw [h21]
              clear h21
              clear hd
              go_wp2
              exact ⟨Fr.refl _ _, trivial⟩
            · intro σ w' hR hd
              simp only [fill, Nat.reduceAdd, if_true, Bool.false_eq_true, if_false]
              obtain h21 : σ 21 = _ := hd 5 (by decide)
              rw [h21]
              clear h21
              clear hd
              go_wp2
              exact ⟨Fr.refl _ _, trivial⟩
            · intro σ w' hR hd
              simp only [fill, Nat.reduceAdd, if_true, Bool.false_eq_true, if_false]
              obtain h21 : σ 21 = _ := hd 5 (by decide)
              rw [h21]
              clear h21
              clear hd
              go_wp2
              exact ⟨Fr.refl _ _, trivial⟩
            · intro σ w' hR hd
              simp only [fill, Nat.reduceAdd, if_true, Bool.false_eq_true, if_false]
              obtain h21 : σ 21 = _ := hd 5 (by decide)
              rw [h21]
              clear h21
              clear hd
              go_wp2
              exact ⟨Fr.refl _ _, trivial⟩
            · intro σ w' hR hd
              simp only [fill, Nat.reduceAdd, if_true, Bool.false_eq_true, if_false]
              obtain h21 : σ 21 = _ := hd 5 (by decide)
              rw [h21]
              clear h21
              clear hd
              go_wp2
              exact ⟨Fr.refl _ _, trivial⟩
            · intro σ w' hR hd
              simp only [fill, Nat.reduceAdd, if_true, Bool.false_eq_true, if_false]
              obtain h21 : σ 21 = _ := hd 5 (by decide)
              rw [h21]
              clear h21
              clear hd
              go_wp2
              exact ⟨Fr.refl _ _, trivial⟩
            · intro σ w' hR hd
              simp only [fill, Nat.reduceAdd, if_true, Bool.false_eq_true, if_false]
              obtain h21 : σ 21 = _ := hd 5 (by decide)
              rw [h21]
              clear h21
              clear hd
              go_wp2
              exact ⟨Fr.refl _ _, trivial⟩
            · intro σ w' hR hd
              simp only [fill, Nat.reduceAdd, if_true, Bool.false_eq_true, if_false]
              obtain h21 : σ 21 = _ := hd 5 (by decide)
              rw [h21]
              clear h21
              clear hd
              go_wp2
              exact ⟨Fr.refl _ _, trivial⟩
            · intro σ w' hR hd
              simp only [fill, Nat.reduceAdd, if_true, Bool.false_eq_true, if_false]
              obtain h21 : σ 21 = _ := hd 5 (by decide)
              rw [h21]
              clear h21
              clear hd
              go_wp2
              exact ⟨Fr.refl _ _, rfl⟩
            · intro σ w' hR hd
              simp only [fill, Nat.reduceAdd, if_true, Bool.false_eq_true, if_false]
              obtain h30 : σ 30 = _ := hd 14 (by decide)
              rw [h30]
              clear h30
              clear hd
              go_wp2
              exact ⟨Fr.refl _ _, rfl⟩
            · intro σ w' hR hd
              simp only [fill, Nat.reduceAdd, if_true, Bool.false_eq_true, if_false]
              obtain h31 : σ 31 = _ := hd 15 (by decide)
              rw [h31]
              clear h31
              clear hd
              go_wp2
              exact ⟨Fr.refl _ _, trivial⟩
            · intro σ w' hR hd
              simp only [fill, Nat.reduceAdd, if_true, Bool.false_eq_true, if_false]
              obtain h31 : σ 31 = _ := hd 15 (by decide)
              rw [h31]
              clear h31
              clear hd
              go_wp2
              exact ⟨Fr.refl _ _, trivial⟩
            · intro σ w' hR hd
              simp only [fill, Nat.reduceAdd, if_true, Bool.false_eq_true, if_false]
              obtain h31 : σ 31 = _ := hd 15 (by decide)
              rw [h31]
              clear h31
              clear hd
              go_wp2
              exact ⟨Fr.refl _ _, rfl⟩
            · intro σ w' hR hd
              simp only [fill, Nat.reduceAdd, if_true, Bool.false_eq_true, if_false]
              obtain h34 : σ 34 = _ := hd 18 (by decide)
              rw [h34]
              clear h34
              clear hd
              go_wp2
              exact ⟨Fr.refl _ _, trivial⟩
            · intro σ w' hR hd
              simp only [fill, Nat.reduceAdd, if_true, Bool.false_eq_true, if_false]
              obtain h34 : σ 34 = _ := hd 18 (by decide)
              rw [h34]
              clear h34
              clear hd
              go_wp2
              exact ⟨Fr.refl _ _, trivial⟩
            · intro σ w' hR hd
              simp only [fill, Nat.reduceAdd, if_true, Bool.false_eq_true, if_false]
              obtain h34 : σ 34 = _ := hd 18 (by decide)
              rw [h34]
              clear h34
              clear hd
              go_wp2
              exact ⟨Fr.refl _ _, trivial⟩
            · intro σ w' hR hd
              simp only [fill, Nat.reduceAdd, if_true, Bool.false_eq_true, if_false]
              obtain h34 : σ 34 = _ := hd 18 (by decide)
              rw [h34]
              clear h34
              clear hd
              go_wp2
              exact ⟨Fr.refl _ _, trivial⟩
            · intro σ w' hR hd
              simp only [fill, Nat.reduceAdd, if_true, Bool.false_eq_true, if_false]
              obtain h34 : σ 34 = _ := hd 18 (by decide)
              rw [h34]
              clear h34
              clear hd
              go_wp2
              exact ⟨Fr.refl _ _, trivial⟩
            · intro σ w' hR hd
              simp only [fill, Nat.reduceAdd, if_true, Bool.false_eq_true, if_false]
              obtain h34 : σ 34 = _ := hd 18 (by decide)
              rw [h34]
              clear h34
              clear hd
              go_wp2
              exact ⟨Fr.refl _ _, trivial⟩
            · intro σ w' hR hd
              simp only [fill, Nat.reduceAdd, if_true, Bool.false_eq_true, if_false]
              obtain h34 : σ 34 = _ := hd 18 (by decide)
              rw [h34]
              clear h34
              clear hd
              go_wp2
              exact ⟨Fr.refl _ _, trivial⟩
            · intro σ w' hR hd
              simp only [fill, Nat.reduceAdd, if_true, Bool.false_eq_true, if_false]
              obtain h34 : σ 34 = _ := hd 18 (by decide)
              rw [h34]
              clear h34
              clear hd
              go_wp2
              exact ⟨Fr.refl _ _, trivial⟩
            · intro σ w' hR hd
              simp only [fill, Nat.reduceAdd, if_true, Bool.false_eq_true, if_false]
              obtain h34 : σ 34 = _ := hd 18 (by decide)
              rw [h34]
              clear h34
              clear hd
              go_wp2
              exact ⟨Fr.refl _ _, trivial⟩
            · intro σ w' hR hd
              simp only [fill, Nat.reduceAdd, if_true, Bool.false_eq_true, if_false]
              obtain h34 : σ 34 = _ := hd 18 (by decide)
              rw [h34]
              clear h34
              clear hd
              go_wp2
              exact ⟨Fr.refl _ _, trivial⟩
            · intro σ w' hR hd
              simp only [fill, Nat.reduceAdd, if_true, Bool.false_eq_true, if_false]
              obtain h34 : σ 34 = _ := hd 18 (by decide)
              rw [h34]
              clear h34
              clear hd
              go_wp2
              exact ⟨Fr.refl _ _, trivial⟩
            · intro σ w' hR hd
              simp only [fill, Nat.reduceAdd, if_true, Bool.false_eq_true, if_false]
              obtain h34 : σ 34 = _ := hd 18 (by decide)
              rw [h34]
              clear h34
              clear hd
              go_wp2
              exact ⟨Fr.refl _ _, trivial⟩
            · intro σ w' hR hd
              simp only [fill, Nat.reduceAdd, if_true, Bool.false_eq_true, if_false]
              obtain h34 : σ 34 = _ := hd 18 (by decide)
              rw [h34]
              clear h34
              clear hd
              go_wp2
              exact ⟨Fr.refl _ _, trivial⟩
            · intro σ w' hR hd
              simp only [fill, Nat.reduceAdd, if_true, Bool.false_eq_true, if_false]
              obtain h31 : σ 31 = _ := hd 15 (by decide)
              rw [h31]
              clear h31
              clear hd
              go_wp2
              exact ⟨Fr.refl _ _, trivial⟩
            · intro σ w' hR hd
              simp only [fill, Nat.reduceAdd, if_true, Bool.false_eq_true, if_false]
              obtain h31 : σ 31 = _ := hd 15 (by decide)
              rw [h31]
              clear h31
              clear hd
              go_wp2
              exact ⟨Fr.refl _ _, rfl⟩
          · intro σ w3 hR hG hH
            obtain h49 : σ 49 = _ := hG 33 (by decide)
            simp only [fill, Nat.reduceAdd, if_true, Bool.false_eq_true, if_false, h49]
            clear h49
            clear hG
            have HF2 := Hd.mk (HFI.out.trans ((Fr.drew (Fr.refl [] _)).trans hR))
            clear hR hH
            go_wp2
            go_roundw
            case rel => exact ⟨j + 1, by omega, by go_num, by rw [HE.out, HKV.out], HF2.out⟩
            case measure => simp [intOf]; omega
        | true =>
          rw [hu] at hcu
          have HCU := Hd.mk hcu
          by_cases hd : a.x.expire ≤ now
          · have HDD : Hd (decide (a.x.expire ≤ now) = true) := Hd.mk (decide_eq_true hd)
            have hst := HSTEP.out
            rw [hu, HDD.out] at hst
            simp only [Bool.and_self, if_true] at hst
            cases hb : bestTo t now j with
            | none =>
              rw [hb] at hst
              have HE : Hd (bestTo t now (j + 1) = some j) := Hd.mk hst
              have HKN : Hd (decide ((-1 : Int) < 0) = true) := Hd.mk (by decide)
              rw [hb] at hkv
              rw [show optI none = -1 from rfl]
              clear hcu hu hkv hst hb hd
              go_wp2_with fail
              clear b0 b1 b2 b3 bf
              refine wp_region_gs { R := Fr [], R1 := Fr [], gs := [Is (.pointer (some ⟨sb, 1, none⟩)), Is (.slice (some ⟨gu, 0, none⟩) n cu), Is (.int .i64 j), Is (.pointer (some ⟨gu, j, none⟩)), Is (.bool true), Is (.bool true), Is (.pointer (some ⟨sb, 0, none⟩)), Is (.slice (some ⟨gx, 0, none⟩) n cx), Is (.int .i64 j), Is (.pointer (some ⟨gx, j * 7, none⟩)), Is (.pointer (some ⟨gx, j * 7 + 6, none⟩)), Is (.int .u64 a.x.expire), Is (.int .u64 now), Is (.bool true), Is (.bool true), Is (.bool true), Is (.int .i64 (-1)), Is (.bool true), Is (.bool true), No, No, No, No, No, No, No, No, No, No, No, No, No, Is (.bool true), Is (.bool true)], ds := [some 16, some 17, some 18, some 19, some 20, some 21, some 22, some 23, some 24, some 25, some 26, some 27, some 28, some 29, some 30, some 31, some 32, some 33, some 34, some 35, some 36, some 37, some 38, some 39, some 40, some 41, some 42, some 43, some 44, some 45, some 46, some 47, some 48, some 49], fl := [false, false, false, false, false, false, false, false, false, false, false, false, false, false, false, false, false, false, false, false, false, false, false, false, false, false, false, false, false, false, false, false, false, false], hs := [], hd := [] } [false, false, false, false, false, false, false, false, false, false, false, false, false, false, false, false, true, true, true, true, true, true, true, true, true, true, true, true, true, true, true, true, true, true, true, true, true, true, true, true, true, true, true, true, true, true, true, true, true, true, false, false, false, false, false, false, false, false, false, false, false, false, false, false, false, false, false, false] (by kernel_rfl) _ (by kernel_rfl) (by kernel_rfl) (by kernel_rfl) (by kernel_rfl) rfl [] (fun _ _ _ h1 h2 => h1.trans h2) (fun _ _ h => h) (staI (staI (staI (staI (staI (staI (staI (staI (staI (staI (staI (staI (staI (staI (staI (staI (staI (staI (staI (staN (staN (staN (staN (staN (staN (staN (staN (staN (staN (staN (staN (staN (staI (staI sta0)))))))))))))))))))))))))))))))))) sth0 (fun _ _ h => h.size) _ (Fr.refl _ _) trivial ?_ ?_
              · refine ⟨?_, ?_, ?_, ?_, ?_, ?_, ?_, ?_, ?_, ?_, ?_, ?_, ?_, ?_, ?_, ?_, ?_, ?_, ?_, ?_, ?_, ?_, ?_, ?_, ?_, ?_, ?_, ?_, ?_, ?_, ?_, ?_, ?_, ?_, trivial⟩
                · intro σ w' hR hd
                  simp only [fill, Nat.reduceAdd, if_true, Bool.false_eq_true, if_false]
                  clear hd
                  go_wp2
                  exact ⟨Fr.refl _ _, rfl⟩
                · intro σ w' hR hd
                  simp only [fill, Nat.reduceAdd, if_true, Bool.false_eq_true, if_false]
                  obtain h16 : σ 16 = _ := hd 0 (by decide)
                  rw [h16]
                  clear h16
                  clear hd
                  obtain ⟨b0, b1, b2, b3, bf⟩ := (HSB2.out.fr ((Fr.drew (Fr.refl [] _)).trans hR) (by simp)).cells4
                  go_wp2
                  exact ⟨Fr.refl _ _, rfl⟩
                · intro σ w' hR hd
                  simp only [fill, Nat.reduceAdd, if_true, Bool.false_eq_true, if_false]
                  clear hd
                  go_wp2
                  exact ⟨Fr.refl _ _, rfl⟩
                · intro σ w' hR hd
                  simp only [fill, Nat.reduceAdd, if_true, Bool.false_eq_true, if_false]
                  obtain h17 : σ 17 = _ := hd 1 (by decide)
                  obtain h18 : σ 18 = _ := hd 2 (by decide)
                  rw [h17, h18]
                  clear h17 h18
                  clear hd
                  go_wp2
                  exact ⟨Fr.refl _ _, rfl⟩
                · intro σ w' hR hd
                  simp only [fill, Nat.reduceAdd, if_true, Bool.false_eq_true, if_false]
                  obtain h19 : σ 19 = _ := hd 3 (by decide)
                  rw [h19]
                  clear h19
                  clear hd
                  have k1 := ((Fr.drew (Fr.refl [] _)).trans hR).cell HCU.out (by simp)
                  go_wp2
                  exact ⟨Fr.refl _ _, rfl⟩
                · intro σ w' hR hd
                  simp only [fill, Nat.reduceAdd, if_true, Bool.false_eq_true, if_false]
                  obtain h20 : σ 20 = _ := hd 4 (by decide)
                  rw [h20]
                  clear h20
                  clear hd
                  go_wp2
                  exact ⟨Fr.refl _ _, rfl⟩
                · intro σ w' hR hd
                  simp only [fill, Nat.reduceAdd, if_true, Bool.false_eq_true, if_false]
                  obtain h21 : σ 21 = _ := hd 5 (by decide)
                  rw [h21]
                  clear h21
                  clear hd
                  go_wp2
                  exact ⟨Fr.refl _ _, rfl⟩
                · intro σ w' hR hd
                  simp only [fill, Nat.reduceAdd, if_true, Bool.false_eq_true, if_false]
                  obtain h21 : σ 21 = _ := hd 5 (by decide)
                  obtain h22 : σ 22 = _ := hd 6 (by decide)
                  rw [h21, h22]
                  clear h21 h22
                  clear hd
                  obtain ⟨b0, b1, b2, b3, bf⟩ := (HSB2.out.fr ((Fr.drew (Fr.refl [] _)).trans hR) (by simp)).cells4
                  go_wp2
                  exact ⟨Fr.refl _ _, rfl⟩
                · intro σ w' hR hd
                  simp only [fill, Nat.reduceAdd, if_true, Bool.false_eq_true, if_false]
                  obtain h21 : σ 21 = _ := hd 5 (by decide)
                  rw [h21]
                  clear h21
                  clear hd
                  go_wp2
                  exact ⟨Fr.refl _ _, rfl⟩
                · intro σ w' hR hd
                  simp only [fill, Nat.reduceAdd, if_true, Bool.false_eq_true, if_false]
                  obtain h21 : σ 21 = _ := hd 5 (by decide)
                  obtain h23 : σ 23 = _ := hd 7 (by decide)
                  obtain h24 : σ 24 = _ := hd 8 (by decide)
                  rw [h21, h23, h24]
                  clear h21 h23 h24
                  clear hd
                  go_wp2
                  exact ⟨Fr.refl _ _, rfl⟩
                · intro σ w' hR hd
                  simp only [fill, Nat.reduceAdd, if_true, Bool.false_eq_true, if_false]
                  obtain h21 : σ 21 = _ := hd 5 (by decide)
                  obtain h25 : σ 25 = _ := hd 9 (by decide)
                  rw [h21, h25]
                  clear h21 h25
                  clear hd
                  go_wp2
                  exact ⟨Fr.refl _ _, rfl⟩
                · intro σ w' hR hd
                  simp only [fill, Nat.reduceAdd, if_true, Bool.false_eq_true, if_false]
                  obtain h21 : σ 21 = _ := hd 5 (by decide)
                  obtain h26 : σ 26 = _ := hd 10 (by decide)
                  rw [h21, h26]
                  clear h21 h26
                  clear hd
                  have k6 := ((Fr.drew (Fr.refl [] _)).trans hR).cell HCX.out (by simp)
                  go_wp2
                  exact ⟨Fr.refl _ _, rfl⟩
                · intro σ w' hR hd
                  simp only [fill, Nat.reduceAdd, if_true, Bool.false_eq_true, if_false]
                  obtain h21 : σ 21 = _ := hd 5 (by decide)
                  rw [h21]
                  clear h21
                  clear hd
                  go_wp2
                  exact ⟨Fr.refl _ _, rfl⟩
                · intro σ w' hR hd
                  simp only [fill, Nat.reduceAdd, if_true, Bool.false_eq_true, if_false]
                  obtain h21 : σ 21 = _ := hd 5 (by decide)
                  obtain h27 : σ 27 = _ := hd 11 (by decide)
                  obtain h28 : σ 28 = _ := hd 12 (by decide)
                  rw [h21, h27, h28]
                  clear h21 h27 h28
                  clear hd
                  have hdd := HDD.out
                  go_wp2
                  exact ⟨Fr.refl _ _, rfl⟩
                · intro σ w' hR hd
                  simp only [fill, Nat.reduceAdd, if_true, Bool.false_eq_true, if_false]
                  obtain h21 : σ 21 = _ := hd 5 (by decide)
                  obtain h29 : σ 29 = _ := hd 13 (by decide)
                  rw [h21, h29]
                  clear h21 h29
                  clear hd
                  go_wp2
                  exact ⟨Fr.refl _ _, rfl⟩
                · intro σ w' hR hd
                  simp only [fill, Nat.reduceAdd, if_true, Bool.false_eq_true, if_false]
                  obtain h30 : σ 30 = _ := hd 14 (by decide)
                  rw [h30]
                  clear h30
                  clear hd
                  go_wp2
                  exact ⟨Fr.refl _ _, rfl⟩
                · intro σ w' hR hd
                  simp only [fill, Nat.reduceAdd, if_true, Bool.false_eq_true, if_false]
                  obtain h31 : σ 31 = _ := hd 15 (by decide)
                  rw [h31]
                  clear h31
                  clear hd
                  go_wp2
                  exact ⟨Fr.refl _ _, rfl⟩
                · intro σ w' hR hd
                  simp only [fill, Nat.reduceAdd, if_true, Bool.false_eq_true, if_false]
                  obtain h31 : σ 31 = _ := hd 15 (by decide)
                  obtain h32 : σ 32 = _ := hd 16 (by decide)
                  rw [h31, h32]
                  clear h31 h32
                  clear hd
                  have hkn := HKN.out
                  go_wp2
                  exact ⟨Fr.refl _ _, rfl⟩
                · intro σ w' hR hd
                  simp only [fill, Nat.reduceAdd, if_true, Bool.false_eq_true, if_false]
                  obtain h31 : σ 31 = _ := hd 15 (by decide)
                  obtain h33 : σ 33 = _ := hd 17 (by decide)
                  rw [h31, h33]
                  clear h31 h33
                  clear hd
                  go_wp2
                  exact ⟨Fr.refl _ _, rfl⟩
                · intro σ w' hR hd
                  simp only [fill, Nat.reduceAdd, if_true, Bool.false_eq_true, if_false]
                  obtain h34 : σ 34 = _ := hd 18 (by decide)
                  rw [h34]
                  clear h34
                  clear hd
                  go_wp2
                  exact ⟨Fr.refl _ _, trivial⟩
                · intro σ w' hR hd
                  simp only [fill, Nat.reduceAdd, if_true, Bool.false_eq_true, if_false]
                  obtain h34 : σ 34 = _ := hd 18 (by decide)
                  rw [h34]
                  clear h34
                  clear hd
                  go_wp2
                  exact ⟨Fr.refl _ _, trivial⟩
                · intro σ w' hR hd
                  simp only [fill, Nat.reduceAdd, if_true, Bool.false_eq_true, if_false]
                  obtain h34 : σ 34 = _ := hd 18 (by decide)
                  rw [h34]
                  clear h34
                  clear hd
                  go_wp2
                  exact ⟨Fr.refl _ _, trivial⟩
                · intro σ w' hR hd
                  simp only [fill, Nat.reduceAdd, if_true, Bool.false_eq_true, if_false]
                  obtain h34 : σ 34 = _ := hd 18 (by decide)
                  rw [h34]
                  clear h34
                  clear hd
                  go_wp2
                  exact ⟨Fr.refl _ _, trivial⟩
                · intro σ w' hR hd
                  simp only [fill, Nat.reduceAdd, if_true, Bool.false_eq_true, if_false]
                  obtain h34 : σ 34 = _ := hd 18 (by decide)
                  rw [h34]
                  clear h34
                  clear hd
                  go_wp2
                  exact ⟨Fr.refl _ _, trivial⟩
                · intro σ w' hR hd
                  simp only [fill, Nat.reduceAdd, if_true, Bool.false_eq_true, if_false]
                  obtain h34 : σ 34 = _ := hd 18 (by decide)
                  rw [h34]
                  clear h34
                  clear hd
                  go_wp2
                  exact ⟨Fr.refl _ _, trivial⟩
                · intro σ w' hR hd
                  simp only [fill, Nat.reduceAdd, if_true, Bool.false_eq_true, if_false]
                  obtain h34 : σ 34 = _ := hd 18 (by decide)
                  rw [h34]
                  clear h34
                  clear hd
                  go_wp2
                  exact ⟨Fr.refl _ _, trivial⟩
                · intro σ w' hR hd
                  simp only [fill, Nat.reduceAdd, if_true, Bool.false_eq_true, if_false]
                  obtain h34 : σ 34 = _ := hd 18 (by decide)
                  rw [h34]
                  clear h34
                  clear hd
                  go_wp2
                  exact ⟨Fr.refl _ _, trivial⟩
                · intro σ w' hR hd
                  simp only [fill, Nat.reduceAdd, if_true, Bool.false_eq_true, if_false]
                  obtain h34 : σ 34 = _ := hd 18 (by decide)
                  rw [h34]
                  clear h34
                  clear hd
                  go_wp2
                  exact ⟨Fr.refl _ _, trivial⟩
                · intro σ w' hR hd
                  simp only [fill, Nat.reduceAdd, if_true, Bool.false_eq_true, if_false]
                  obtain h34 : σ 34 = _ := hd 18 (by decide)
                  rw [h34]
                  clear h34
                  clear hd
                  go_wp2
                  exact ⟨Fr.refl _ _, trivial⟩
                · intro σ w' hR hd
                  simp only [fill, Nat.reduceAdd, if_true, Bool.false_eq_true, if_false]
                  obtain h34 : σ 34 = _ := hd 18 (by decide)
                  rw [h34]
                  clear h34
                  clear hd
                  go_wp2
                  exact ⟨Fr.refl _ _, trivial⟩
                · intro σ w' hR hd
                  simp only [fill, Nat.reduceAdd, if_true, Bool.false_eq_true, if_false]
                  obtain h34 : σ 34 = _ := hd 18 (by decide)
                  rw [h34]
                  clear h34
                  clear hd
                  go_wp2
                  exact ⟨Fr.refl _ _, trivial⟩
                · intro σ w' hR hd
                  simp only [fill, Nat.reduceAdd, if_true, Bool.false_eq_true, if_false]
                  obtain h34 : σ 34 = _ := hd 18 (by decide)
                  rw [h34]
                  clear h34
                  clear hd
                  go_wp2
                  exact ⟨Fr.refl _ _, trivial⟩
                · intro σ w' hR hd
                  simp only [fill, Nat.reduceAdd, if_true, Bool.false_eq_true, if_false]
                  obtain h31 : σ 31 = _ := hd 15 (by decide)
                  obtain h34 : σ 34 = _ := hd 18 (by decide)
                  rw [h31, h34]
                  clear h31 h34
                  clear hd
                  go_wp2
                  exact ⟨Fr.refl _ _, rfl⟩
                · intro σ w' hR hd
                  simp only [fill, Nat.reduceAdd, if_true, Bool.false_eq_true, if_false]
                  obtain h31 : σ 31 = _ := hd 15 (by decide)
                  obtain h48 : σ 48 = _ := hd 32 (by decide)
                  rw [h31, h48]
                  clear h31 h48
                  clear hd
                  go_wp2
                  exact ⟨Fr.refl _ _, rfl⟩
              · intro σ w3 hR hG hH
                obtain h49 : σ 49 = _ := hG 33 (by decide)
                simp only [fill, Nat.reduceAdd, if_true, Bool.false_eq_true, if_false, h49]
                clear h49
                clear hG
                have HF2 := Hd.mk (HFI.out.trans ((Fr.drew (Fr.refl [] _)).trans hR))
                clear hR hH
                go_wp2
                go_roundw
                case rel => exact ⟨j + 1, by omega, by go_num, by rw [HE.out]; rfl, HF2.out⟩
                case measure => simp [intOf]; omega
            | some kk =>
              rw [hb] at hst
              have hbs := HBST.out
              rw [hb] at hbs
              obtain ⟨hkj, ⟨c, hgk, -, -⟩, -⟩ := hbs
              have HCK := Hd.mk (HT2.out.ent hgk 6 _ (by omega) rfl)
              have hek : expAt t kk = c.x.expire := by unfold expAt; rw [hgk]; rfl
              dsimp only at hst
              rw [hek] at hst
              obtain ⟨BB, hBB⟩ : ∃ BB, decide (a.x.expire < c.x.expire) = BB := ⟨_, rfl⟩
              have HBB := Hd.mk hBB
              have HE : Hd (bestTo t now (j + 1) = if BB then some j else some kk) := Hd.mk (by
                rw [hst]
                cases BB
                · have : ¬ a.x.expire < c.x.expire := by simpa using hBB
                  simp [this]
                · have : a.x.expire < c.x.expire := by simpa using hBB
                  simp [this])
              have HKN : Hd (decide ((kk : Int) < 0) = false) := Hd.mk (by rw [decide_eq_false_iff_not]; omega)
              have hkn : kk < n := by omega
              rw [show optI (some kk) = (kk : Int) from rfl]
              clear hcu hu hkv hst hb hd hek hBB hgk
              go_wp2_with fail
              clear b0 b1 b2 b3 bf
              refine wp_region_gs { R := Fr [], R1 := Fr [], gs := [Is (.pointer (some ⟨sb, 1, none⟩)), Is (.slice (some ⟨gu, 0, none⟩) n cu), Is (.int .i64 j), Is (.pointer (some ⟨gu, j, none⟩)), Is (.bool true), Is (.bool true), Is (.pointer (some ⟨sb, 0, none⟩)), Is (.slice (some ⟨gx, 0, none⟩) n cx), Is (.int .i64 j), Is (.pointer (some ⟨gx, j * 7, none⟩)), Is (.pointer (some ⟨gx, j * 7 + 6, none⟩)), Is (.int .u64 a.x.expire), Is (.int .u64 now), Is (.bool true), Is (.bool true), Is (.bool true), Is (.int .i64 kk), Is (.bool false), Is (.bool false), Is (.pointer (some ⟨sb, 0, none⟩)), Is (.slice (some ⟨gx, 0, none⟩) n cx), Is (.int .i64 j), Is (.pointer (some ⟨gx, j * 7, none⟩)), Is (.pointer (some ⟨gx, j * 7 + 6, none⟩)), Is (.int .u64 a.x.expire), Is (.pointer (some ⟨sb, 0, none⟩)), Is (.slice (some ⟨gx, 0, none⟩) n cx), Is (.int .i64 kk), Is (.pointer (some ⟨gx, kk * 7, none⟩)), Is (.pointer (some ⟨gx, kk * 7 + 6, none⟩)), Is (.int .u64 c.x.expire), Is (.bool BB), Is (.bool BB), Is (.bool BB)], ds := [some 16, some 17, some 18, some 19, some 20, some 21, some 22, some 23, some 24, some 25, some 26, some 27, some 28, some 29, some 30, some 31, some 32, some 33, some 34, some 35, some 36, some 37, some 38, some 39, some 40, some 41, some 42, some 43, some 44, some 45, some 46, some 47, some 48, some 49], fl := [false, false, false, false, false, false, false, false, false, false, false, false, false, false, false, false, false, false, false, false, false, false, false, false, false, false, false, false, false, false, false, false, false, false], hs := [], hd := [] } [false, false, false, false, false, false, false, false, false, false, false, false, false, false, false, false, true, true, true, true, true, true, true, true, true, true, true, true, true, true, true, true, true, true, true, true, true, true, true, true, true, true, true, true, true, true, true, true, true, true, false, false, false, false, false, false, false, false, false, false, false, false, false, false, false, false, false, false] (by kernel_rfl) _ (by kernel_rfl) (by kernel_rfl) (by kernel_rfl) (by kernel_rfl) rfl [] (fun _ _ _ h1 h2 => h1.trans h2) (fun _ _ h => h) (staI (staI (staI (staI (staI (staI (staI (staI (staI (staI (staI (staI (staI (staI (staI (staI (staI (staI (staI (staI (staI (staI (staI (staI (staI (staI (staI (staI (staI (staI (staI (staI (staI (staI sta0)))))))))))))))))))))))))))))))))) sth0 (fun _ _ h => h.size) _ (Fr.refl _ _) trivial ?_ ?_
              · refine ⟨?_, ?_, ?_, ?_, ?_, ?_, ?_, ?_, ?_, ?_, ?_, ?_, ?_, ?_, ?_, ?_, ?_, ?_, ?_, ?_, ?_, ?_, ?_, ?_, ?_, ?_, ?_, ?_, ?_, ?_, ?_, ?_, ?_, ?_, trivial⟩
                · intro σ w' hR hd
                  simp only [fill, Nat.reduceAdd, if_true, Bool.false_eq_true, if_false]
                  clear hd
                  go_wp2
                  exact ⟨Fr.refl _ _, rfl⟩
                · intro σ w' hR hd
                  simp only [fill, Nat.reduceAdd, if_true, Bool.false_eq_true, if_false]
                  obtain h16 : σ 16 = _ := hd 0 (by decide)
                  rw [h16]
                  clear h16
                  clear hd
                  obtain ⟨b0, b1, b2, b3, bf⟩ := (HSB2.out.fr ((Fr.drew (Fr.refl [] _)).trans hR) (by simp)).cells4
                  go_wp2
                  exact ⟨Fr.refl _ _, rfl⟩
                · intro σ w' hR hd
                  simp only [fill, Nat.reduceAdd, if_true, Bool.false_eq_true, if_false]
                  clear hd
                  go_wp2
                  exact ⟨Fr.refl _ _, rfl⟩
                · intro σ w' hR hd
                  simp only [fill, Nat.reduceAdd, if_true, Bool.false_eq_true, if_false]
                  obtain h17 : σ 17 = _ := hd 1 (by decide)
                  obtain h18 : σ 18 = _ := hd 2 (by decide)
                  rw [h17, h18]
                  clear h17 h18
                  clear hd
                  go_wp2
                  exact ⟨Fr.refl _ _, rfl⟩
                · intro σ w' hR hd
                  simp only [fill, Nat.reduceAdd, if_true, Bool.false_eq_true, if_false]
                  obtain h19 : σ 19 = _ := hd 3 (by decide)
                  rw [h19]
                  clear h19
                  clear hd
                  have k1 := ((Fr.drew (Fr.refl [] _)).trans hR).cell HCU.out (by simp)
                  go_wp2
                  exact ⟨Fr.refl _ _, rfl⟩
                · intro σ w' hR hd
                  simp only [fill, Nat.reduceAdd, if_true, Bool.false_eq_true, if_false]
                  obtain h20 : σ 20 = _ := hd 4 (by decide)
                  rw [h20]
                  clear h20
                  clear hd
                  go_wp2
                  exact ⟨Fr.refl _ _, rfl⟩
                · intro σ w' hR hd
                  simp only [fill, Nat.reduceAdd, if_true, Bool.false_eq_true, if_false]
                  obtain h21 : σ 21 = _ := hd 5 (by decide)
                  rw [h21]
                  clear h21
                  clear hd
                  go_wp2
                  exact ⟨Fr.refl _ _, rfl⟩
                · intro σ w' hR hd
                  simp only [fill, Nat.reduceAdd, if_true, Bool.false_eq_true, if_false]
                  obtain h21 : σ 21 = _ := hd 5 (by decide)
                  obtain h22 : σ 22 = _ := hd 6 (by decide)
                  rw [h21, h22]
                  clear h21 h22
                  clear hd
                  obtain ⟨b0, b1, b2, b3, bf⟩ := (HSB2.out.fr ((Fr.drew (Fr.refl [] _)).trans hR) (by simp)).cells4
                  go_wp2
                  exact ⟨Fr.refl _ _, rfl⟩
                · intro σ w' hR hd
                  simp only [fill, Nat.reduceAdd, if_true, Bool.false_eq_true, if_false]
                  obtain h21 : σ 21 = _ := hd 5 (by decide)
                  rw [h21]
                  clear h21
                  clear hd
                  go_wp2
                  exact ⟨Fr.refl _ _, rfl⟩
                · intro σ w' hR hd
                  simp only [fill, Nat.reduceAdd, if_true, Bool.false_eq_true, if_false]
                  obtain h21 : σ 21 = _ := hd 5 (by decide)
                  obtain h23 : σ 23 = _ := hd 7 (by decide)
                  obtain h24 : σ 24 = _ := hd 8 (by decide)
                  rw [h21, h23, h24]
                  clear h21 h23 h24
                  clear hd
                  go_wp2
                  exact ⟨Fr.refl _ _, rfl⟩
                · intro σ w' hR hd
                  simp only [fill, Nat.reduceAdd, if_true, Bool.false_eq_true, if_false]
                  obtain h21 : σ 21 = _ := hd 5 (by decide)
                  obtain h25 : σ 25 = _ := hd 9 (by decide)
                  rw [h21, h25]
                  clear h21 h25
                  clear hd
                  go_wp2
                  exact ⟨Fr.refl _ _, rfl⟩
                · intro σ w' hR hd
                  simp only [fill, Nat.reduceAdd, if_true, Bool.false_eq_true, if_false]
                  obtain h21 : σ 21 = _ := hd 5 (by decide)
                  obtain h26 : σ 26 = _ := hd 10 (by decide)
                  rw [h21, h26]
                  clear h21 h26
                  clear hd
                  have k6 := ((Fr.drew (Fr.refl [] _)).trans hR).cell HCX.out (by simp)
                  go_wp2
                  exact ⟨Fr.refl _ _, rfl⟩
                · intro σ w' hR hd
                  simp only [fill, Nat.reduceAdd, if_true, Bool.false_eq_true, if_false]
                  obtain h21 : σ 21 = _ := hd 5 (by decide)
                  rw [h21]
                  clear h21
                  clear hd
                  go_wp2
                  exact ⟨Fr.refl _ _, rfl⟩
                · intro σ w' hR hd
                  simp only [fill, Nat.reduceAdd, if_true, Bool.false_eq_true, if_false]
                  obtain h21 : σ 21 = _ := hd 5 (by decide)
                  obtain h27 : σ 27 = _ := hd 11 (by decide)
                  obtain h28 : σ 28 = _ := hd 12 (by decide)
                  rw [h21, h27, h28]
                  clear h21 h27 h28
                  clear hd
                  have hdd := HDD.out
                  go_wp2
                  exact ⟨Fr.refl _ _, rfl⟩
                · intro σ w' hR hd
                  simp only [fill, Nat.reduceAdd, if_true, Bool.false_eq_true, if_false]
                  obtain h21 : σ 21 = _ := hd 5 (by decide)
                  obtain h29 : σ 29 = _ := hd 13 (by decide)
                  rw [h21, h29]
                  clear h21 h29
                  clear hd
                  go_wp2
                  exact ⟨Fr.refl _ _, rfl⟩
                · intro σ w' hR hd
                  simp only [fill, Nat.reduceAdd, if_true, Bool.false_eq_true, if_false]
                  obtain h30 : σ 30 = _ := hd 14 (by decide)
                  rw [h30]
                  clear h30
                  clear hd
                  go_wp2
                  exact ⟨Fr.refl _ _, rfl⟩
                · intro σ w' hR hd
                  simp only [fill, Nat.reduceAdd, if_true, Bool.false_eq_true, if_false]
                  obtain h31 : σ 31 = _ := hd 15 (by decide)
                  rw [h31]
                  clear h31
                  clear hd
                  go_wp2
                  exact ⟨Fr.refl _ _, rfl⟩
                · intro σ w' hR hd
                  simp only [fill, Nat.reduceAdd, if_true, Bool.false_eq_true, if_false]
                  obtain h31 : σ 31 = _ := hd 15 (by decide)
                  obtain h32 : σ 32 = _ := hd 16 (by decide)
                  rw [h31, h32]
                  clear h31 h32
                  clear hd
                  have hkn := HKN.out
                  go_wp2
                  exact ⟨Fr.refl _ _, rfl⟩
                · intro σ w' hR hd
                  simp only [fill, Nat.reduceAdd, if_true, Bool.false_eq_true, if_false]
                  obtain h31 : σ 31 = _ := hd 15 (by decide)
                  obtain h33 : σ 33 = _ := hd 17 (by decide)
                  rw [h31, h33]
                  clear h31 h33
                  clear hd
                  go_wp2
                  exact ⟨Fr.refl _ _, rfl⟩
                · intro σ w' hR hd
                  simp only [fill, Nat.reduceAdd, if_true, Bool.false_eq_true, if_false]
                  obtain h34 : σ 34 = _ := hd 18 (by decide)
                  rw [h34]
                  clear h34
                  clear hd
                  go_wp2
                  exact ⟨Fr.refl _ _, rfl⟩
                · intro σ w' hR hd
                  simp only [fill, Nat.reduceAdd, if_true, Bool.false_eq_true, if_false]
                  obtain h34 : σ 34 = _ := hd 18 (by decide)
                  obtain h35 : σ 35 = _ := hd 19 (by decide)
                  rw [h34, h35]
                  clear h34 h35
                  clear hd
                  obtain ⟨b0, b1, b2, b3, bf⟩ := (HSB2.out.fr ((Fr.drew (Fr.refl [] _)).trans hR) (by simp)).cells4
                  go_wp2
                  exact ⟨Fr.refl _ _, rfl⟩
                · intro σ w' hR hd
                  simp only [fill, Nat.reduceAdd, if_true, Bool.false_eq_true, if_false]
                  obtain h34 : σ 34 = _ := hd 18 (by decide)
                  rw [h34]
                  clear h34
                  clear hd
                  go_wp2
                  exact ⟨Fr.refl _ _, rfl⟩
                · intro σ w' hR hd
                  simp only [fill, Nat.reduceAdd, if_true, Bool.false_eq_true, if_false]
                  obtain h34 : σ 34 = _ := hd 18 (by decide)
                  obtain h36 : σ 36 = _ := hd 20 (by decide)
                  obtain h37 : σ 37 = _ := hd 21 (by decide)
                  rw [h34, h36, h37]
                  clear h34 h36 h37
                  clear hd
                  go_wp2
                  exact ⟨Fr.refl _ _, rfl⟩
                · intro σ w' hR hd
                  simp only [fill, Nat.reduceAdd, if_true, Bool.false_eq_true, if_false]
                  obtain h34 : σ 34 = _ := hd 18 (by decide)
                  obtain h38 : σ 38 = _ := hd 22 (by decide)
                  rw [h34, h38]
                  clear h34 h38
                  clear hd
                  go_wp2
                  exact ⟨Fr.refl _ _, rfl⟩
                · intro σ w' hR hd
                  simp only [fill, Nat.reduceAdd, if_true, Bool.false_eq_true, if_false]
                  obtain h34 : σ 34 = _ := hd 18 (by decide)
                  obtain h39 : σ 39 = _ := hd 23 (by decide)
                  rw [h34, h39]
                  clear h34 h39
                  clear hd
                  have k6 := ((Fr.drew (Fr.refl [] _)).trans hR).cell HCX.out (by simp)
                  go_wp2
                  exact ⟨Fr.refl _ _, rfl⟩
                · intro σ w' hR hd
                  simp only [fill, Nat.reduceAdd, if_true, Bool.false_eq_true, if_false]
                  obtain h34 : σ 34 = _ := hd 18 (by decide)
                  rw [h34]
                  clear h34
                  clear hd
                  go_wp2
                  exact ⟨Fr.refl _ _, rfl⟩
                · intro σ w' hR hd
                  simp only [fill, Nat.reduceAdd, if_true, Bool.false_eq_true, if_false]
                  obtain h34 : σ 34 = _ := hd 18 (by decide)
                  obtain h41 : σ 41 = _ := hd 25 (by decide)
                  rw [h34, h41]
                  clear h34 h41
                  clear hd
                  obtain ⟨b0, b1, b2, b3, bf⟩ := (HSB2.out.fr ((Fr.drew (Fr.refl [] _)).trans hR) (by simp)).cells4
                  go_wp2
                  exact ⟨Fr.refl _ _, rfl⟩
                · intro σ w' hR hd
                  simp only [fill, Nat.reduceAdd, if_true, Bool.false_eq_true, if_false]
                  obtain h34 : σ 34 = _ := hd 18 (by decide)
                  rw [h34]
                  clear h34
                  clear hd
                  go_wp2
                  exact ⟨Fr.refl _ _, rfl⟩
                · intro σ w' hR hd
                  simp only [fill, Nat.reduceAdd, if_true, Bool.false_eq_true, if_false]
                  obtain h34 : σ 34 = _ := hd 18 (by decide)
                  obtain h42 : σ 42 = _ := hd 26 (by decide)
                  obtain h43 : σ 43 = _ := hd 27 (by decide)
                  rw [h34, h42, h43]
                  clear h34 h42 h43
                  clear hd
                  go_wp2
                  exact ⟨Fr.refl _ _, rfl⟩
                · intro σ w' hR hd
                  simp only [fill, Nat.reduceAdd, if_true, Bool.false_eq_true, if_false]
                  obtain h34 : σ 34 = _ := hd 18 (by decide)
                  obtain h44 : σ 44 = _ := hd 28 (by decide)
                  rw [h34, h44]
                  clear h34 h44
                  clear hd
                  go_wp2
                  exact ⟨Fr.refl _ _, rfl⟩
                · intro σ w' hR hd
                  simp only [fill, Nat.reduceAdd, if_true, Bool.false_eq_true, if_false]
                  obtain h34 : σ 34 = _ := hd 18 (by decide)
                  obtain h45 : σ 45 = _ := hd 29 (by decide)
                  rw [h34, h45]
                  clear h34 h45
                  clear hd
                  have k7 := ((Fr.drew (Fr.refl [] _)).trans hR).cell HCK.out (by simp)
                  go_wp2
                  exact ⟨Fr.refl _ _, rfl⟩
                · intro σ w' hR hd
                  simp only [fill, Nat.reduceAdd, if_true, Bool.false_eq_true, if_false]
                  obtain h34 : σ 34 = _ := hd 18 (by decide)
                  obtain h40 : σ 40 = _ := hd 24 (by decide)
                  obtain h46 : σ 46 = _ := hd 30 (by decide)
                  rw [h34, h40, h46]
                  clear h34 h40 h46
                  clear hd
                  have hbb := HBB.out
                  go_wp2
                  exact ⟨Fr.refl _ _, rfl⟩
                · intro σ w' hR hd
                  simp only [fill, Nat.reduceAdd, if_true, Bool.false_eq_true, if_false]
                  obtain h31 : σ 31 = _ := hd 15 (by decide)
                  obtain h34 : σ 34 = _ := hd 18 (by decide)
                  obtain h47 : σ 47 = _ := hd 31 (by decide)
                  rw [h31, h34, h47]
                  clear h31 h34 h47
                  clear hd
                  go_wp2
                  exact ⟨Fr.refl _ _, rfl⟩
                · intro σ w' hR hd
                  simp only [fill, Nat.reduceAdd, if_true, Bool.false_eq_true, if_false]
                  obtain h31 : σ 31 = _ := hd 15 (by decide)
                  obtain h48 : σ 48 = _ := hd 32 (by decide)
                  rw [h31, h48]
                  clear h31 h48
                  clear hd
                  go_wp2
                  exact ⟨Fr.refl _ _, rfl⟩
              · intro σ w3 hR hG hH
                obtain h49 : σ 49 = _ := hG 33 (by decide)
                simp only [fill, Nat.reduceAdd, if_true, Bool.false_eq_true, if_false, h49]
                clear h49
                clear hG
                have HF2 := Hd.mk (HFI.out.trans ((Fr.drew (Fr.refl [] _)).trans hR))
                clear hR hH
                cases BB with
                | true =>
                  go_wp2
                  go_roundw
                  case rel => exact ⟨j + 1, by omega, by go_num, by rw [HE.out]; rfl, HF2.out⟩
                  case measure => simp [intOf]; omega
                | false =>
                  go_wp2
                  go_roundw
                  case rel => exact ⟨j + 1, by omega, by go_num, by rw [HE.out]; rfl, HF2.out⟩
                  case measure => simp [intOf]; omega
          · have HDD : Hd (decide (a.x.expire ≤ now) = false) := Hd.mk (decide_eq_false hd)
            have HE : Hd (bestTo t now (j + 1) = bestTo t now j) := Hd.mk (by rw [HSTEP.out, hu, HDD.out]; rfl)
            rw [hkv]
            clear hcu hu hkv hd
            go_wp2_with fail
            clear b0 b1 b2 b3 bf
            refine wp_region_gs { R := Fr [], R1 := Fr [], gs := [Is (.pointer (some ⟨sb, 1, none⟩)), Is (.slice (some ⟨gu, 0, none⟩) n cu), Is (.int .i64 j), Is (.pointer (some ⟨gu, j, none⟩)), Is (.bool true), Is (.bool true), Is (.pointer (some ⟨sb, 0, none⟩)), Is (.slice (some ⟨gx, 0, none⟩) n cx), Is (.int .i64 j), Is (.pointer (some ⟨gx, j * 7, none⟩)), Is (.pointer (some ⟨gx, j * 7 + 6, none⟩)), Is (.int .u64 a.x.expire), Is (.int .u64 now), Is (.bool false), Is (.bool false), Is (.bool false), No, No, Is undef, No, No, No, No, No, No, No, No, No, No, No, No, No, No, Is (.bool false)], ds := [some 16, some 17, some 18, some 19, some 20, some 21, some 22, some 23, some 24, some 25, some 26, some 27, some 28, some 29, some 30, some 31, some 32, some 33, some 34, some 35, some 36, some 37, some 38, some 39, some 40, some 41, some 42, some 43, some 44, some 45, some 46, some 47, some 48, some 49], fl := [false, false, false, false, false, false, false, false, false, false, false, false, false, false, false, false, false, false, false, false, false, false, false, false, false, false, false, false, false, false, false, false, false, false], hs := [], hd := [] } [false, false, false, false, false, false, false, false, false, false, false, false, false, false, false, false, true, true, true, true, true, true, true, true, true, true, true, true, true, true, true, true, true, true, true, true, true, true, true, true, true, true, true, true, true, true, true, true, true, true, false, false, false, false, false, false, false, false, false, false, false, false, false, false, false, false, false, false] (by kernel_rfl) _ (by kernel_rfl) (by kernel_rfl) (by kernel_rfl) (by kernel_rfl) rfl [] (fun _ _ _ h1 h2 => h1.trans h2) (fun _ _ h => h) (staI (staI (staI (staI (staI (staI (staI (staI (staI (staI (staI (staI (staI (staI (staI (staI (staN (staN (staI (staN (staN (staN (staN (staN (staN (staN (staN (staN (staN (staN (staN (staN (staN (staI sta0)))))))))))))))))))))))))))))))))) sth0 (fun _ _ h => h.size) _ (Fr.refl _ _) trivial ?_ ?_
            · refine ⟨?_, ?_, ?_, ?_, ?_, ?_, ?_, ?_, ?_, ?_, ?_, ?_, ?_, ?_, ?_, ?_, ?_, ?_, ?_, ?_, ?_, ?_, ?_, ?_, ?_, ?_, ?_, ?_, ?_, ?_, ?_, ?_, ?_, ?_, trivial⟩
              · intro σ w' hR hd
                simp only [fill, Nat.reduceAdd, if_true, Bool.false_eq_true, if_false]
                clear hd
                go_wp2
                exact ⟨Fr.refl _ _, rfl⟩
              · intro σ w' hR hd
                simp only [fill, Nat.reduceAdd, if_true, Bool.false_eq_true, if_false]
                obtain h16 : σ 16 = _ := hd 0 (by decide)
                rw [h16]
                clear h16
                clear hd
                obtain ⟨b0, b1, b2, b3, bf⟩ := (HSB2.out.fr ((Fr.drew (Fr.refl [] _)).trans hR) (by simp)).cells4
                go_wp2
                exact ⟨Fr.refl _ _, rfl⟩
              · intro σ w' hR hd
                simp only [fill, Nat.reduceAdd, if_true, Bool.false_eq_true, if_false]
                clear hd
                go_wp2
                exact ⟨Fr.refl _ _, rfl⟩
              · intro σ w' hR hd
                simp only [fill, Nat.reduceAdd, if_true, Bool.false_eq_true, if_false]
                obtain h17 : σ 17 = _ := hd 1 (by decide)
                obtain h18 : σ 18 = _ := hd 2 (by decide)
                rw [h17, h18]
                clear h17 h18
                clear hd
                go_wp2
                exact ⟨Fr.refl _ _, rfl⟩
              · intro σ w' hR hd
                simp only [fill, Nat.reduceAdd, if_true, Bool.false_eq_true, if_false]
                obtain h19 : σ 19 = _ := hd 3 (by decide)
                rw [h19]
                clear h19
                clear hd
                have k1 := ((Fr.drew (Fr.refl [] _)).trans hR).cell HCU.out (by simp)
                go_wp2
                exact ⟨Fr.refl _ _, rfl⟩
              · intro σ w' hR hd
                simp only [fill, Nat.reduceAdd, if_true, Bool.false_eq_true, if_false]
                obtain h20 : σ 20 = _ := hd 4 (by decide)
                rw [h20]
                clear h20
                clear hd
                go_wp2
                exact ⟨Fr.refl _ _, rfl⟩
              · intro σ w' hR hd
                simp only [fill, Nat.reduceAdd, if_true, Bool.false_eq_true, if_false]
                obtain h21 : σ 21 = _ := hd 5 (by decide)
                rw [h21]
                clear h21
                clear hd
                go_wp2
                exact ⟨Fr.refl _ _, rfl⟩
              · intro σ w' hR hd
                simp only [fill, Nat.reduceAdd, if_true, Bool.false_eq_true, if_false]
                obtain h21 : σ 21 = _ := hd 5 (by decide)
                obtain h22 : σ 22 = _ := hd 6 (by decide)
                rw [h21, h22]
                clear h21 h22
                clear hd
                obtain ⟨b0, b1, b2, b3, bf⟩ := (HSB2.out.fr ((Fr.drew (Fr.refl [] _)).trans hR) (by simp)).cells4
                go_wp2
                exact ⟨Fr.refl _ _, rfl⟩
              · intro σ w' hR hd
                simp only [fill, Nat.reduceAdd, if_true, Bool.false_eq_true, if_false]
                obtain h21 : σ 21 = _ := hd 5 (by decide)
                rw [h21]
                clear h21
                clear hd
                go_wp2
                exact ⟨Fr.refl _ _, rfl⟩
              · intro σ w' hR hd
                simp only [fill, Nat.reduceAdd, if_true, Bool.false_eq_true, if_false]
                obtain h21 : σ 21 = _ := hd 5 (by decide)
                obtain h23 : σ 23 = _ := hd 7 (by decide)
                obtain h24 : σ 24 = _ := hd 8 (by decide)
                rw [h21, h23, h24]
                clear h21 h23 h24
                clear hd
                go_wp2
                exact ⟨Fr.refl _ _, rfl⟩
              · intro σ w' hR hd
                simp only [fill, Nat.reduceAdd, if_true, Bool.false_eq_true, if_false]
                obtain h21 : σ 21 = _ := hd 5 (by decide)
                obtain h25 : σ 25 = _ := hd 9 (by decide)
                rw [h21, h25]
                clear h21 h25
                clear hd
                go_wp2
                exact ⟨Fr.refl _ _, rfl⟩
              · intro σ w' hR hd
                simp only [fill, Nat.reduceAdd, if_true, Bool.false_eq_true, if_false]
                obtain h21 : σ 21 = _ := hd 5 (by decide)
                obtain h26 : σ 26 = _ := hd 10 (by decide)
                rw [h21, h26]
                clear h21 h26
                clear hd
                have k6 := ((Fr.drew (Fr.refl [] _)).trans hR).cell HCX.out (by simp)
                go_wp2
                exact ⟨Fr.refl _ _, rfl⟩
              · intro σ w' hR hd
                simp only [fill, Nat.reduceAdd, if_true, Bool.false_eq_true, if_false]
                obtain h21 : σ 21 = _ := hd 5 (by decide)
                rw [h21]
                clear h21
                clear hd
                go_wp2
                exact ⟨Fr.refl _ _, rfl⟩
              · intro σ w' hR hd
                simp only [fill, Nat.reduceAdd, if_true, Bool.false_eq_true, if_false]
                obtain h21 : σ 21 = _ := hd 5 (by decide)
                obtain h27 : σ 27 = _ := hd 11 (by decide)
                obtain h28 : σ 28 = _ := hd 12 (by decide)
                rw [h21, h27, h28]
                clear h21 h27 h28
                clear hd
                have hdd := HDD.out
                go_wp2
                exact ⟨Fr.refl _ _, rfl⟩
              · intro σ w' hR hd
                simp only [fill, Nat.reduceAdd, if_true, Bool.false_eq_true, if_false]
                obtain h21 : σ 21 = _ := hd 5 (by decide)
                obtain h29 : σ 29 = _ := hd 13 (by decide)
                rw [h21, h29]
                clear h21 h29
                clear hd
                go_wp2
                exact ⟨Fr.refl _ _, rfl⟩
              · intro σ w' hR hd
                simp only [fill, Nat.reduceAdd, if_true, Bool.false_eq_true, if_false]
                obtain h30 : σ 30 = _ := hd 14 (by decide)
                rw [h30]
                clear h30
                clear hd
                go_wp2
                exact ⟨Fr.refl _ _, rfl⟩
              · intro σ w' hR hd
                simp only [fill, Nat.reduceAdd, if_true, Bool.false_eq_true, if_false]
                obtain h31 : σ 31 = _ := hd 15 (by decide)
                rw [h31]
                clear h31
                clear hd
                go_wp2
                exact ⟨Fr.refl _ _, trivial⟩
              · intro σ w' hR hd
                simp only [fill, Nat.reduceAdd, if_true, Bool.false_eq_true, if_false]
                obtain h31 : σ 31 = _ := hd 15 (by decide)
                rw [h31]
                clear h31
                clear hd
                go_wp2
                exact ⟨Fr.refl _ _, trivial⟩
              · intro σ w' hR hd
                simp only [fill, Nat.reduceAdd, if_true, Bool.false_eq_true, if_false]
                obtain h31 : σ 31 = _ := hd 15 (by decide)
                rw [h31]
                clear h31
                clear hd
                go_wp2
                exact ⟨Fr.refl _ _, rfl⟩
              · intro σ w' hR hd
                simp only [fill, Nat.reduceAdd, if_true, Bool.false_eq_true, if_false]
                obtain h34 : σ 34 = _ := hd 18 (by decide)
                rw [h34]
                clear h34
                clear hd
                go_wp2
                exact ⟨Fr.refl _ _, trivial⟩
              · intro σ w' hR hd
                simp only [fill, Nat.reduceAdd, if_true, Bool.false_eq_true, if_false]
                obtain h34 : σ 34 = _ := hd 18 (by decide)
                rw [h34]
                clear h34
                clear hd
                go_wp2
                exact ⟨Fr.refl _ _, trivial⟩
              · intro σ w' hR hd
                simp only [fill, Nat.reduceAdd, if_true, Bool.false_eq_true, if_false]
                obtain h34 : σ 34 = _ := hd 18 (by decide)
                rw [h34]
                clear h34
                clear hd
                go_wp2
                exact ⟨Fr.refl _ _, trivial⟩
              · intro σ w' hR hd
                simp only [fill, Nat.reduceAdd, if_true, Bool.false_eq_true, if_false]
                obtain h34 : σ 34 = _ := hd 18 (by decide)
                rw [h34]
                clear h34
                clear hd
                go_wp2
                exact ⟨Fr.refl _ _, trivial⟩
              · intro σ w' hR hd
                simp only [fill, Nat.reduceAdd, if_true, Bool.false_eq_true, if_false]
                obtain h34 : σ 34 = _ := hd 18 (by decide)
                rw [h34]
                clear h34
                clear hd
                go_wp2
                exact ⟨Fr.refl _ _, trivial⟩
              · intro σ w' hR hd
                simp only [fill, Nat.reduceAdd, if_true, Bool.false_eq_true, if_false]
                obtain h34 : σ 34 = _ := hd 18 (by decide)
                rw [h34]
                clear h34
                clear hd
                go_wp2
                exact ⟨Fr.refl _ _, trivial⟩
              · intro σ w' hR hd
                simp only [fill, Nat.reduceAdd, if_true, Bool.false_eq_true, if_false]
                obtain h34 : σ 34 = _ := hd 18 (by decide)
                rw [h34]
                clear h34
                clear hd
                go_wp2
                exact ⟨Fr.refl _ _, trivial⟩
              · intro σ w' hR hd
                simp only [fill, Nat.reduceAdd, if_true, Bool.false_eq_true, if_false]
                obtain h34 : σ 34 = _ := hd 18 (by decide)
                rw [h34]
                clear h34
                clear hd
                go_wp2
                exact ⟨Fr.refl _ _, trivial⟩
              · intro σ w' hR hd
                simp only [fill, Nat.reduceAdd, if_true, Bool.false_eq_true, if_false]
                obtain h34 : σ 34 = _ := hd 18 (by decide)
                rw [h34]
                clear h34
                clear hd
                go_wp2
                exact ⟨Fr.refl _ _, trivial⟩
              · intro σ w' hR hd
                simp only [fill, Nat.reduceAdd, if_true, Bool.false_eq_true, if_false]
                obtain h34 : σ 34 = _ := hd 18 (by decide)
                rw [h34]
                clear h34
                clear hd
                go_wp2
                exact ⟨Fr.refl _ _, trivial⟩
              · intro σ w' hR hd
                simp only [fill, Nat.reduceAdd, if_true, Bool.false_eq_true, if_false]
                obtain h34 : σ 34 = _ := hd 18 (by decide)
                rw [h34]
                clear h34
                clear hd
                go_wp2
                exact ⟨Fr.refl _ _, trivial⟩
              · intro σ w' hR hd
                simp only [fill, Nat.reduceAdd, if_true, Bool.false_eq_true, if_false]
                obtain h34 : σ 34 = _ := hd 18 (by decide)
                rw [h34]
                clear h34
                clear hd
                go_wp2
                exact ⟨Fr.refl _ _, trivial⟩
              · intro σ w' hR hd
                simp only [fill, Nat.reduceAdd, if_true, Bool.false_eq_true, if_false]
                obtain h34 : σ 34 = _ := hd 18 (by decide)
                rw [h34]
                clear h34
                clear hd
                go_wp2
                exact ⟨Fr.refl _ _, trivial⟩
              · intro σ w' hR hd
                simp only [fill, Nat.reduceAdd, if_true, Bool.false_eq_true, if_false]
                obtain h31 : σ 31 = _ := hd 15 (by decide)
                rw [h31]
                clear h31
                clear hd
                go_wp2
                exact ⟨Fr.refl _ _, trivial⟩
              · intro σ w' hR hd
                simp only [fill, Nat.reduceAdd, if_true, Bool.false_eq_true, if_false]
                obtain h31 : σ 31 = _ := hd 15 (by decide)
                rw [h31]
                clear h31
                clear hd
                go_wp2
                exact ⟨Fr.refl _ _, rfl⟩
            · intro σ w3 hR hG hH
              obtain h49 : σ 49 = _ := hG 33 (by decide)
              simp only [fill, Nat.reduceAdd, if_true, Bool.false_eq_true, if_false, h49]
              clear h49
              clear hG
              have HF2 := Hd.mk (HFI.out.trans ((Fr.drew (Fr.refl [] _)).trans hR))
              clear hR hH
              go_wp2
              go_roundw
              case rel => exact ⟨j + 1, by omega, by go_num, by rw [HE.out, HKV.out], HF2.out⟩
              case measure => simp [intOf]; omega
      · have hje : j = n := by omega
        have hbh := best_head t now
        rw [HTN.out, ← hje] at hbh
        cases gk with
        | zero =>
          have hnil : dueK t now = [] := List.eq_nil_of_length_eq_zero HINV.out.1
          rw [hnil] at hbh
          rw [hbh, show optI ([] : List Nat).head? = -1 from rfl]
          have HDN := Hd.mk (And.intro hnil HINV.out.2)
          have HRB2 := Hd.mk (HRB1.out.fr HFI.out (by simp))
          have HQ2 := Hd.mk (own_fr HQ1.out HFI.out (by simp))
          clear hbh hnil
          obtain ⟨d0, d1, d2, d3, df⟩ := HRB2.out.cells4
          have hsr : sb ≠ rb := HNE.out
          go_wp2_with fail
          refine ret_name ?_; intro w5 hw5
          obtain ⟨h5, f5⟩ := Blk.four HRB2.out hw5
          clear b0 b1 b2 b3 bf d0 d1 d2 d3 df hw5
          obtain ⟨y0, y1, y2, y3, -⟩ := h5.cells4
          have hra := HT2.out.frs f5 (by simpa using own_ne HT2.out.x HRB2.out (by decide) _ rfl) (by simpa using own_ne HT2.out.u HRB2.out (by decide) _ rfl) (by simpa using own_ne HT2.out.t HRB2.out (by decide) _ rfl)
          have hq5 := own_fr HQ2.out f5 (fun k hk hx => by have := (HQ2.out.lt k hk).1; have := HLT.out.2; simp at hx; omega)
          have htn := HTN.out
          obtain ⟨e1, e2, e3⟩ := HDN.out
          rw [e1] at e2 e3
          simp only [List.map_nil, List.append_nil] at e2
          have e3 : t = dueS s now := e3
          subst htn
          exact bodyPost_ret (v := .tuple #[refV gx cx gu cu gt ct t.l.length t.hand, u6]) (by simp [results, Try.results41, go_sem, y0, y1, y2, y3, refV]) rfl
            ⟨gx, cx, gu, cu, gt, ct, _, by rw [← e3]; exact rfl, by rw [← e3]; exact hra, by rw [← e2]; exact own_base hq5 HF0.out.size, (HF1.out.trans HFI.out).weak f5 (by simp; exact HWL.out.2)⟩
        | succ gk =>
          obtain ⟨k, ks, hks⟩ : ∃ k ks, dueK t now = k :: ks := by
            cases hd : dueK t now with
            | nil => have := HINV.out.1; rw [hd] at this; simp at this
            | cons k ks => exact ⟨k, ks, rfl⟩
          rw [hks] at hbh
          rw [hbh, show optI (k :: ks).head? = (k : Int) from rfl]
          obtain ⟨⟨c, hgk, -, -⟩, -⟩ := due_head hks
          have hkl := (List.getElem?_eq_some_iff.1 hgk).1
          have hkn : k < n := by rw [← HTN.out]; exact hkl
          have hlz : decide ((k : Int) < 0) = false := by rw [decide_eq_false_iff_not]; omega
          have hx := HT2.out.ent hgk
          have x0 : wr.cell? ⟨gx, k * 7, none⟩ = some (.string c.x.q.name) := hx 0 _ (by omega) rfl
          have x1 := hx 1 _ (by omega) rfl
          have x2 := hx 2 _ (by omega) rfl
          have HKS := Hd.mk hks
          have HQA : Hd (qAt t k = c.x.q) := Hd.mk (by unfold qAt; rw [hgk]; rfl)
          have HKLEN := Hd.mk hkl
          have HRB2 := Hd.mk (HRB1.out.fr HFI.out (by simp))
          have hq2 := own_fr HQ1.out HFI.out (by simp)
          have hbz : w0.heap.size ≤ wr.heap.size := Nat.le_trans HSZ.out HFI.out.size
          have hKl : K.length ≤ 64 := by
            have h1 := HINV.out.2.1
            have h2 := congrArg List.length h1
            unfold dueQ at h2
            simp only [List.length_append, List.length_map] at h2
            have := dueK_len s now
            have := H.out.len
            omega
          have HQ2 := Hd.mk hq2
          clear hbh hks hx hgk hkl
          go_upto_region 11 with (at_builtin; refine wpList_app1s elQ rfl (.tmp 55) (.tmp 62) rfl hq2 rfl c.x.q.c rfl rfl (by simp [Qn.c, Value.oneCell']) (by omega) (by omega) hbz ?_; intro g9 c9 w9 ho9 hf9 hb9 hg9 hor9; have HO9 := Hd.mk ho9; have HFQ := Hd.mk hf9; clear ho9 hf9 hb9 hg9 hor9 hq2 x0 x1 x2 b0 b1 b2 b3 bf)
          have hno : ∀ y : Nat, y < w0.heap.size → y ∉ u6.ownBlock.toList := fun y hy hx => by have := (HQ2.out.lt y (by simpa using hx)).1; omega
          have HT9 := Hd.mk (HT2.out.frs HFQ.out (fun hx => own_apart HQ2.out HT2.out.x (by decide) _ (by simpa using hx) rfl) (fun hx => own_apart HQ2.out HT2.out.u (by decide) _ (by simpa using hx) rfl) (fun hx => own_apart HQ2.out HT2.out.t (by decide) _ (by simpa using hx) rfl))
          have HB9 := Hd.mk (HSB2.out.fr HFQ.out (hno sb HLT.out.1))
          have HR9 := Hd.mk (HRB2.out.fr HFQ.out (hno rb HLT.out.2))
          have HF9 := Hd.mk ((HF1.out.trans HFI.out).weak HFQ.out (fun x hx => .inr (by have := (HQ2.out.lt x (by simpa using hx)).1; have := HF0.out.size; omega)))
          have HZ9 := Hd.mk HFQ.out.size
          clear hno
          obtain ⟨b0, b1, b2, b3, bf⟩ := HB9.out.cells4
          go_wp2_with fail
          clear b0 b1 b2 b3 bf
          have hw := with_any HT9.out k HKLEN.out zeroEn false false
          simp only [HTN.out] at hw
          refine hw.mono ?_
          rintro r w2 ⟨gx', cx', gu', cu', gt', ct', rfl, h2, hf2⟩
          have hb2 := HB9.out.fr hf2 (by simp)
          have hne1 : gx' ≠ sb := own_ne h2.x hb2 (by decide) gx' rfl
          have hne2 : gu' ≠ sb := own_ne h2.u hb2 (by decide) gu' rfl
          have hne3 : gt' ≠ sb := own_ne h2.t hb2 (by decide) gt' rfl
          have H2 := Hd.mk h2
          have HB2 := Hd.mk hb2
          have HR2 := Hd.mk (HR9.out.fr hf2 (by simp))
          have HF2 := Hd.mk (HF9.out.trans hf2)
          have HO2 := Hd.mk (own_fr HO9.out hf2 (by simp))
          have HZ2 := Hd.mk hf2.size
          clear h2 hb2 hf2 hw
          obtain ⟨b0, b1, b2, b3, bf⟩ := HB2.out.cells4
          unfold refV
          go_wp2_with fail
          go_roundg gk
          case measure => omega
          case rel =>
            clear b0 b1 b2 b3 bf
            obtain ⟨hb3, f3⟩ := HB2.out.four rfl
            have hdt := due_tail HKS.out
            have hnd := dueK_nodup t now
            rw [HKS.out] at hnd
            obtain ⟨i1, i2, i3⟩ := HINV.out
            rw [HKS.out] at i1 i2 i3
            refine ⟨t.at k Sl.none, gx', cx', gu', cu', gt', ct', K ++ [c.x.q], H2.out.frs f3 (by simpa using hne1) (by simpa using hne2) (by simpa using hne3), Hd.mk (by rw [at_len]; exact HTN.out), Hd.mk ⟨?_, ?_, ?_⟩, ?_, hb3, HR2.out.fr f3 (by simpa using Ne.symm HNE.out), HF2.out.weak f3 (by simp; exact HWL.out.1), Hd.mk (by have := HZ9.out; have := HZ2.out; have := HSZ.out; have := HFI.out.size; have := f3.size; omega)⟩
            · rw [hdt]; simpa using i1
            · rw [hdt, ← i2, List.append_assoc]
              congr 1
              rw [List.map_cons, HQA.out]
              simp only [List.singleton_append, List.cons.injEq, true_and]
              apply List.map_congr_left
              intro j hj
              exact qAt_at (fun e => by subst e; exact (List.nodup_cons.1 hnd).1 hj)
            · rw [hdt]; exact i3
            · unfold QRow
              rw [List.length_append, List.flatMap_append]
              have h9 := own_fr HO2.out f3 (fun y hy hx => by
                have := (HO2.out.lt y hy).1
                have := HLT.out.1
                simp at hx
                omega)
              simpa using h9
end Go.Proofs.Ytjfhdffmlnkooaa
