import Derived.Test.YtjfhdffmlnkooaaRB
import Derived.Test.YtjfhdffmlnkooaaRP
namespace Go.Proofs.Ytjfhdffmlnkooaa
open Go Go.RowKit Go.Proofs.MapL PPM Go.Proofs.YtjfhdffmlnkooaaW.PrintWords

set_option maxRecDepth 100000 in
set_option maxHeartbeats 8000000 in
theorem plays_law {w : World} {v : Value} {ds : List Dd} (room size : Int) (hD : DeedsAt w v ds) : Calls Try.prog 5 #[.int .i64 room, .int .i64 size, v] w fun r w' => r = .returned (.bool true) ∧ Fr [] w w' := by
  obtain ⟨hle, hrr, A0, cd, rfl, hat⟩ := hD
  have HAT := Hd.mk hat
  have HRR := Hd.mk hrr
  clear hat hrr
  go_enter Try.func5, Try.ntmps5
  go_wp2_with fail
  refine (shown_calls _).mono ?_
  rintro r ws ⟨rfl, hF0⟩
  rcases Int.lt_or_le room 1 with hs1 | hs1
  · go_wp2_with fail
    refine (shnew_none room size (.inl hs1) _).mono ?_
    rintro r w1 ⟨rfl, hf1⟩
    have HF1 := Hd.mk (hF0.trans hf1)
    clear hF0 hf1
    go_wp2
    go_ret
    exact ⟨rfl, HF1.out⟩
  rcases Int.lt_or_le 64 room with hs2 | hs2
  · go_wp2_with fail
    refine (shnew_none room size (.inr (.inl hs2)) _).mono ?_
    rintro r w1 ⟨rfl, hf1⟩
    have HF1 := Hd.mk (hF0.trans hf1)
    clear hF0 hf1
    go_wp2
    go_ret
    exact ⟨rfl, HF1.out⟩
  rcases Int.lt_or_le size 1 with hs3 | hs3
  · go_wp2_with fail
    refine (shnew_none room size (.inr (.inr (.inl hs3))) _).mono ?_
    rintro r w1 ⟨rfl, hf1⟩
    have HF1 := Hd.mk (hF0.trans hf1)
    clear hF0 hf1
    go_wp2
    go_ret
    exact ⟨rfl, HF1.out⟩
  rcases Int.lt_or_le 256 size with hs4 | hs4
  · go_wp2_with fail
    refine (shnew_none room size (.inr (.inr (.inr hs4))) _).mono ?_
    rintro r w1 ⟨rfl, hf1⟩
    have HF1 := Hd.mk (hF0.trans hf1)
    clear hF0 hf1
    go_wp2
    go_ret
    exact ⟨rfl, HF1.out⟩
  obtain ⟨rn, rfl⟩ := Int.eq_ofNat_of_zero_le (show 0 ≤ room by omega)
  obtain ⟨sz, rfl⟩ := Int.eq_ofNat_of_zero_le (show 0 ≤ size by omega)
  have HF0 := Hd.mk hF0
  clear hF0
  go_wp2_with fail
  refine (shnew_calls rn sz (by omega) (by omega) (by omega) (by omega) _).mono ?_
  rintro r w1 ⟨B, rfl, hs1', hf1, hge⟩
  have HS1 := Hd.mk hs1'
  have hsz := HF0.out.size
  have HGE : Hd (∀ k ∈ B.all, w.heap.size ≤ k) := Hd.mk fun k hk => Nat.le_trans hsz (hge k hk)
  have HF1 := Hd.mk (HF0.out.trans hf1)
  clear hs1' hge hf1 hsz
  go_wp2_with fail
  refine (rnew_calls rn (by omega) (by omega) _).mono ?_
  rintro r w2 ⟨gx, cx, gu, cu, gt, ct, rfl, hra, hf2⟩
  have HS2 := Hd.mk (HS1.out.fr0 hf2)
  have HF2 := Hd.mk (HF1.out.trans hf2)
  have HR2 := Hd.mk hra
  clear hra hf2
  unfold refV
  go_upto_region 6 with (fail)
  refine wp_name ?_; intro w3 hw3
  have hf3 := alloc_of hw3
  have hxb := blk_of (T := 51) (c := [.slice (some ⟨gx, 0, none⟩) rn cx, .slice (some ⟨gu, 0, none⟩) rn cu, .slice (some ⟨gt, 0, none⟩) rn ct, .int .i64 0]) hw3
  clear hw3
  have hxn : w.heap.size ≤ w2.heap.size ∧ ∀ k ∈ B.all, k < w2.heap.size := ⟨HF2.out.size, HS2.out.lt⟩
  obtain ⟨xb, h_xb⟩ : ∃ xb, w2.heap.size = xb := ⟨_, rfl⟩
  rw [h_xb] at hxb hxn ⊢
  have HDS0 : Hd (DoSt w w3 B gx cx gu cu gt ct (newS rn)) := Hd.mk ⟨HS2.out.fr0 hf3, HR2.out.fr hf3, HF2.out.trans hf3, HGE.out, EnAll.new rn (RdE.zero _)⟩
  have hnl : (newS rn).l.length = rn := List.length_replicate ..
  have HXB0 : Hd (Blk w3 xb 51 [.slice (some ⟨gx, 0, none⟩) (newS rn).l.length cx, .slice (some ⟨gu, 0, none⟩) (newS rn).l.length cu, .slice (some ⟨gt, 0, none⟩) (newS rn).l.length ct, .int .i64 (newS rn).hand]) := Hd.mk (by rw [hnl]; exact hxb)
  have HXN0 := Hd.mk hxn
  have HNL := Hd.mk hnl
  clear hf3 hxb hxn h_xb hnl
  go_wp2_with fail
  go_loopw [10, 11, 12] (fun i v6 v7 wr => ∃ (k : Nat) (s : SS) (gx cx gu cu gt ct : Nat), k ≤ ds.length ∧ k ≤ 200 ∧ i = .int .i64 k ∧ DoSt w wr B gx cx gu cu gt ct s ∧ Blk wr xb 51 [.slice (some ⟨gx, 0, none⟩) s.l.length cx, .slice (some ⟨gu, 0, none⟩) s.l.length cu, .slice (some ⟨gt, 0, none⟩) s.l.length ct, .int .i64 s.hand] ∧ s.l.length = rn) (fun i _ _ _ => 200 - (intOf i).toNat)
  case atStart => exact ⟨0, newS rn, gx, cx, gu, cu, gt, ct, Nat.zero_le _, by omega, rfl, HDS0.out, HXB0.out, HNL.out⟩
  case round =>
    obtain ⟨k, s, gx, cx, gu, cu, gt, ct, hk, hk2, rfl, hds, hxb, hs4'⟩ := hrel
    have HDS := Hd.mk hds
    have HXB := Hd.mk hxb
    have HS4 := Hd.mk hs4'
    clear hds hxb hs4' HDS0 HXB0
    have HXN : Hd (w.heap.size ≤ xb ∧ xb ∉ B.all) := Hd.mk ⟨HXN0.out.1, fun h => Nat.lt_irrefl _ (HXN0.out.2 _ h)⟩
    by_cases hlt : k < ds.length
    · by_cases hlt2 : k < 200
      · obtain ⟨gd, off, rfl, hgl, hcc⟩ := HAT.out (by omega)
        obtain ⟨d, hd⟩ : ∃ d, ds[k] = d := ⟨_, rfl⟩
        have hcd := hcc k hlt
        have hde := HRR.out (ds[k]) (List.getElem_mem hlt)
        rw [hd] at hcd hde
        have HDE := Hd.mk hde
        have HDC : Hd (∀ j u, d.c[j]? = some u → wr.cell? ⟨gd, off + k * 9 + j, none⟩ = some u) := Hd.mk fun j u hu => HDS.out.fr.cell (hcd j u hu) (by simp)
        have HDW : Hd (gd ∉ B.wr ∧ gd < wr.heap.size) := Hd.mk ⟨fun h => by have := HDS.out.new gd (B.wr_all gd h); omega, by have := HDS.out.fr.size; omega⟩
        have HXW : Hd (xb ∉ B.wr ∧ xb < wr.heap.size) := Hd.mk ⟨fun h => HXN.out.2 (B.wr_all _ h), HXB.out.lt⟩
        have HBL : Hd (∀ k ∈ B.all, k < wr.heap.size) := Hd.mk HDS.out.sh.lt
        have HNW : Hd (∀ yb, wr.heap.size ≤ yb → yb ∉ B.wr) := Hd.mk fun yb hy h => by have := HBL.out yb (B.wr_all yb h); omega
        have HKL := Hd.mk hlt
        clear hd hcd hde hcc
        go_wp2_with fail
        refine wp_region_gs { R := FrT wr.heap.size B.wr 51, R1 := Fr [], gs := [Is (.pointer (some ⟨B.p, 0, none⟩)), Is (.agg #[.slice (some ⟨gx, 0, none⟩) s.l.length cx, .slice (some ⟨gu, 0, none⟩) s.l.length cu, .slice (some ⟨gt, 0, none⟩) s.l.length ct, .int .i64 s.hand]), Is (.slice (some ⟨gd, off, none⟩) ds.length cd), Is (.int .i64 k), Is (.pointer (some ⟨gd, off + k * 9, none⟩)), Is (.agg #[.int .i64 d.kind, .string d.e.q.name, .int .u16 d.e.q.ty, .int .u16 d.e.q.cl, .slice d.e.ra d.e.rn d.e.rc, .int .i64 d.e.rcode, .int .i64 d.e.rank, .int .u64 d.e.expire, .int .u64 d.now]), (fun (v : Value) (w2 : World) => ∃ gx' cx' gu' cu' gt' ct', v = .tuple #[refV gx' cx' gu' cu' gt' ct' (doS s d).l.length (doS s d).hand, .bool true] ∧ RefAt w2 gx' cx' gu' cu' gt' ct' (doS s d) ∧ NotIn gx' gu' gt' B.wr), (fun (v : Value) (w2 : World) => ∃ gx' cx' gu' cu' gt' ct', v = .tuple #[refV gx' cx' gu' cu' gt' ct' (doS s d).l.length (doS s d).hand, .bool true] ∧ RefAt w2 gx' cx' gu' cu' gt' ct' (doS s d) ∧ NotIn gx' gu' gt' B.wr), (fun (v : Value) (w2 : World) => ∃ gx' cx' gu' cu' gt' ct', v = refV gx' cx' gu' cu' gt' ct' (doS s d).l.length (doS s d).hand ∧ RefAt w2 gx' cx' gu' cu' gt' ct' (doS s d) ∧ NotIn gx' gu' gt' B.wr), Is (.bool true), (fun (v : Value) (w2 : World) => ∃ yb, v = .pointer (some ⟨yb, 0, none⟩) ∧ wr.heap.size ≤ yb ∧ BlkN w2 yb 51 4), No, Is (.bool true)], ds := [some 49, some 50, some 51, some 52, some 53, some 54, some 55, some 48, some 56, some 57, some 11, none, some 12], fl := [false, false, false, false, false, false, true, false, false, false, false, true, false], hs := [fun _ w2 => DoSt w w2 B gx cx gu cu gt ct s, fun _ w2 => ShE w2 B (doS s d), fun l w2 => ShE w2 B (doS s d) ∧ ∃ yb, wr.heap.size ≤ yb ∧ l = [.pointer (some ⟨yb, 0, none⟩)] ∧ ∃ gx' cx' gu' cu' gt' ct', Blk w2 yb 51 [.slice (some ⟨gx', 0, none⟩) (doS s d).l.length cx', .slice (some ⟨gu', 0, none⟩) (doS s d).l.length cu', .slice (some ⟨gt', 0, none⟩) (doS s d).l.length ct', .int .i64 (doS s d).hand] ∧ RefAt w2 gx' cx' gu' cu' gt' ct' (doS s d) ∧ NotIn gx' gu' gt' B.wr], hd := [[], [], [11]] } [false, false, false, false, false, false, false, false, false, false, false, true, true, false, false, false, false, false, false, false, false, false, false, false, false, false, false, false, false, false, false, false, false, false, false, false, false, false, false, false, false, false, false, false, false, false, false, false, true, true, true, true, true, true, true, true, true, true, false, false, false, false, false, false, false, false, false, false, false, false, false, false, false, false, false, false, false, false, false, false, false, false, false, false] (by kernel_rfl) _ (by kernel_rfl) (by kernel_rfl) (by kernel_rfl) (by kernel_rfl) rfl [] (fun _ _ _ h1 h2 => h1.trans h2) (fun _ _ h => FrT.of (h.mono (by simp))) (staI (staI (staI (staI (staI (staI (sta (fun v _ _ hf ⟨gx', cx', gu', cu', gt', ct', h1, h2, h3⟩ => ⟨gx', cx', gu', cu', gt', ct', h1, h2.frT hf h3, h3⟩) (sta (fun v _ _ hf ⟨gx', cx', gu', cu', gt', ct', h1, h2, h3⟩ => ⟨gx', cx', gu', cu', gt', ct', h1, h2.frT hf h3, h3⟩) (sta (fun v _ _ hf ⟨gx', cx', gu', cu', gt', ct', h1, h2, h3⟩ => ⟨gx', cx', gu', cu', gt', ct', h1, h2.frT hf h3, h3⟩) (staI (sta (fun v _ _ hf ⟨yb, h1, h2, h3⟩ => ⟨yb, h1, h2, h3.frT hf (HNW.out yb h2)⟩) (staN (staI sta0))))))))))))) (sth (fun _ _ _ hf h => h.fr0 hf) (sth (fun _ _ _ hf h => h.fr0 hf) (sth (fun _ _ _ hf ⟨h0, yb, hn, hl, gx', cx', gu', cu', gt', ct', h1, h2, h3⟩ => ⟨h0.fr0 hf, yb, hn, hl, gx', cx', gu', cu', gt', ct', h1.fr hf (by simp), h2.fr hf, h3⟩) sth0))) (fun _ _ h => h.size) _ (FrT.of (Fr.refl _ _)) (HDS.out.fr0 (Fr.drew (Fr.refl [] _))) ?_ ?_
        · refine ⟨?_, ?_, ?_, ?_, ?_, ?_, ?_, ?_, ?_, ?_, ?_, ?_, ?_, trivial⟩
          · intro σ w' hR hd
            simp only [fill, Nat.reduceAdd, if_true, Bool.false_eq_true, if_false]
            clear hd
            go_wp2
            exact ⟨Fr.refl _ _, rfl⟩
          · intro σ w' hR hd
            simp only [fill, Nat.reduceAdd, if_true, Bool.false_eq_true, if_false]
            clear hd
            have HFT := FrT.trans (FrT.of (Fr.drew (Fr.refl _ _))) hR
            obtain ⟨b0, b1, b2, b3, bf⟩ := (HXB.out.frT HFT HXW.out.1 (.inl HXW.out.2)).cells4
            go_wp2
            exact ⟨Fr.refl _ _, rfl⟩
          · intro σ w' hR hd
            simp only [fill, Nat.reduceAdd, if_true, Bool.false_eq_true, if_false]
            clear hd
            go_wp2
            exact ⟨Fr.refl _ _, rfl⟩
          · intro σ w' hR hd
            simp only [fill, Nat.reduceAdd, if_true, Bool.false_eq_true, if_false]
            clear hd
            go_wp2
            exact ⟨Fr.refl _ _, rfl⟩
          · intro σ w' hR hd
            simp only [fill, Nat.reduceAdd, if_true, Bool.false_eq_true, if_false]
            obtain h51 : σ 51 = _ := hd 2 (by decide)
            obtain h52 : σ 52 = _ := hd 3 (by decide)
            rw [h51, h52]
            clear h51 h52
            clear hd
            have hkl := HKL.out
            go_wp2
            exact ⟨Fr.refl _ _, rfl⟩
          · intro σ w' hR hd
            simp only [fill, Nat.reduceAdd, if_true, Bool.false_eq_true, if_false]
            obtain h53 : σ 53 = _ := hd 4 (by decide)
            rw [h53]
            clear h53
            clear hd
            have HFT := FrT.trans (FrT.of (Fr.drew (Fr.refl _ _))) hR
            have c0 : w'.cell? ⟨gd, off + k * 9, none⟩ = some (.int .i64 d.kind) := HFT.cell (HDC.out 0 _ rfl) HDW.out.1 HDW.out.2
            have c1 : w'.cell? ⟨gd, off + k * 9 + 1, none⟩ = some (.string d.e.q.name) := HFT.cell (HDC.out 1 _ rfl) HDW.out.1 HDW.out.2
            have c2 : w'.cell? ⟨gd, off + k * 9 + 2, none⟩ = some (.int .u16 d.e.q.ty) := HFT.cell (HDC.out 2 _ rfl) HDW.out.1 HDW.out.2
            have c3 : w'.cell? ⟨gd, off + k * 9 + 3, none⟩ = some (.int .u16 d.e.q.cl) := HFT.cell (HDC.out 3 _ rfl) HDW.out.1 HDW.out.2
            have c4 : w'.cell? ⟨gd, off + k * 9 + 4, none⟩ = some (.slice d.e.ra d.e.rn d.e.rc) := HFT.cell (HDC.out 4 _ rfl) HDW.out.1 HDW.out.2
            have c5 : w'.cell? ⟨gd, off + k * 9 + 5, none⟩ = some (.int .i64 d.e.rcode) := HFT.cell (HDC.out 5 _ rfl) HDW.out.1 HDW.out.2
            have c6 : w'.cell? ⟨gd, off + k * 9 + 6, none⟩ = some (.int .i64 d.e.rank) := HFT.cell (HDC.out 6 _ rfl) HDW.out.1 HDW.out.2
            have c7 : w'.cell? ⟨gd, off + k * 9 + 7, none⟩ = some (.int .u64 d.e.expire) := HFT.cell (HDC.out 7 _ rfl) HDW.out.1 HDW.out.2
            have c8 : w'.cell? ⟨gd, off + k * 9 + 8, none⟩ = some (.int .u64 d.now) := HFT.cell (HDC.out 8 _ rfl) HDW.out.1 HDW.out.2
            go_wp2
            exact ⟨Fr.refl _ _, rfl⟩
          · intro σ w' hR hd hH
            simp only [fill, Nat.reduceAdd, if_true, Bool.false_eq_true, if_false]
            obtain h49 : σ 49 = _ := hd 0 (by decide)
            obtain h50 : σ 50 = _ := hd 1 (by decide)
            obtain h54 : σ 54 = _ := hd 5 (by decide)
            rw [h49, h50, h54]
            clear h49 h50 h54
            clear hd
            have HDS : Hd (DoSt w w' B gx cx gu cu gt ct s) := Hd.mk hH
            have hdo := do_any HDS.out d HDE.out.1 HDE.out.2
            unfold Dd.v refV at hdo
            have HDO := Hd.mk hdo
            clear hdo hH
            go_wp2_with fail
            refine HDO.out.mono ?_
            rintro r w4 ⟨gx', cx', gu', cu', gt', ct', rfl, h4, hw4⟩
            have HD4 := Hd.mk h4
            have HW4 := Hd.mk hw4
            have HN4 := Hd.mk (ref_apart h4.sh h4.rf)
            clear h4 hw4
            go_wp2
            exact ⟨FrT.of HW4.out, ⟨gx', cx', gu', cu', gt', ct', rfl, HD4.out.rf, ⟨HN4.out.1, HN4.out.2.1, HN4.out.2.2⟩⟩, HD4.out.sh⟩
          · intro σ w' hR hd
            simp only [fill, Nat.reduceAdd, if_true, Bool.false_eq_true, if_false]
            obtain ⟨gx', cx', gu', cu', gt', ct', h55, h2', h3'⟩ : (fun (v : Value) (w2 : World) => ∃ gx' cx' gu' cu' gt' ct', v = .tuple #[refV gx' cx' gu' cu' gt' ct' (doS s d).l.length (doS s d).hand, .bool true] ∧ RefAt w2 gx' cx' gu' cu' gt' ct' (doS s d) ∧ NotIn gx' gu' gt' B.wr) (σ 55) w' := hd 6 (by decide)
            clear hd
            go_wp2
            exact ⟨Fr.refl _ _, gx', cx', gu', cu', gt', ct', rfl, h2', h3'⟩
          · intro σ w' hR hd
            simp only [fill, Nat.reduceAdd, if_true, Bool.false_eq_true, if_false]
            obtain ⟨gx', cx', gu', cu', gt', ct', h48, h2', h3'⟩ : (fun (v : Value) (w2 : World) => ∃ gx' cx' gu' cu' gt' ct', v = .tuple #[refV gx' cx' gu' cu' gt' ct' (doS s d).l.length (doS s d).hand, .bool true] ∧ RefAt w2 gx' cx' gu' cu' gt' ct' (doS s d) ∧ NotIn gx' gu' gt' B.wr) (σ 48) w' := hd 7 (by decide)
            rw [h48]
            clear h48
            clear hd
            go_wp2
            exact ⟨Fr.refl _ _, gx', cx', gu', cu', gt', ct', rfl, h2', h3'⟩
          · intro σ w' hR hd
            simp only [fill, Nat.reduceAdd, if_true, Bool.false_eq_true, if_false]
            obtain ⟨gx', cx', gu', cu', gt', ct', h48, h2', h3'⟩ : (fun (v : Value) (w2 : World) => ∃ gx' cx' gu' cu' gt' ct', v = .tuple #[refV gx' cx' gu' cu' gt' ct' (doS s d).l.length (doS s d).hand, .bool true] ∧ RefAt w2 gx' cx' gu' cu' gt' ct' (doS s d) ∧ NotIn gx' gu' gt' B.wr) (σ 48) w' := hd 7 (by decide)
            rw [h48]
            clear h48
            clear hd
            go_wp2
            exact ⟨Fr.refl _ _, rfl⟩
          · intro σ w' hR hd
            simp only [fill, Nat.reduceAdd, if_true, Bool.false_eq_true, if_false]
            clear hd
            go_wp2
            exact ⟨(Fr.refl [] _).alloc _, _, rfl, (show wr.drew.heap.size ≤ _ from hR.size), [.slice none 0 0, .slice none 0 0, .slice none 0 0, .int .i64 0], rfl, Blk.new _ _ _⟩
          · intro σ w' hR hd hH
            simp only [fill, Nat.reduceAdd, if_true, Bool.false_eq_true, if_false]
            obtain ⟨yb, h11, hyn, hyb⟩ : (fun (v : Value) (w2 : World) => ∃ yb, v = .pointer (some ⟨yb, 0, none⟩) ∧ wr.heap.size ≤ yb ∧ BlkN w2 yb 51 4) (σ 11) w' := hd 10 (by decide)
            obtain ⟨gx', cx', gu', cu', gt', ct', h56, h2', h3'⟩ : (fun (v : Value) (w2 : World) => ∃ gx' cx' gu' cu' gt' ct', v = refV gx' cx' gu' cu' gt' ct' (doS s d).l.length (doS s d).hand ∧ RefAt w2 gx' cx' gu' cu' gt' ct' (doS s d) ∧ NotIn gx' gu' gt' B.wr) (σ 56) w' := hd 8 (by decide)
            rw [h11, h56]
            clear h11 h56
            clear hd
            have hsh : ShE w' B (doS s d) := hH
            clear hH
            obtain ⟨cs, hcl, hyb⟩ := hyb
            match cs, hcl, hyb with
            | [e0, e1, e2, e3], _, hyb =>
            obtain ⟨d0, d1, d2, d3, df⟩ := hyb.cells4
            have HSH := Hd.mk hsh
            have HH2 := Hd.mk h2'
            have HH3 := h3'
            clear hsh h2' h3' hR
            unfold refV
            go_wp2
            obtain ⟨hq4, hf4⟩ := hyb.four rfl
            exact ⟨FrT.set hf4 hyn hyb hq4 rfl, trivial, HSH.out.fr hf4 (fun k hk => by have := HBL.out k hk; simp; omega), yb, hyn, rfl, gx', cx', gu', cu', gt', ct', hq4, HH2.out.fr1 hf4 hyb, HH3⟩
          · intro σ w' hR hd
            simp only [fill, Nat.reduceAdd, if_true, Bool.false_eq_true, if_false]
            obtain h57 : σ 57 = _ := hd 9 (by decide)
            rw [h57]
            clear h57
            clear hd
            go_wp2
            exact ⟨Fr.refl _ _, rfl⟩
        · intro σ w3 hR hG hH
          obtain h12 : σ 12 = _ := hG 12 (by decide)
          simp only [fill, Nat.reduceAdd, if_true, Bool.false_eq_true, if_false, h12]
          clear h12
          clear hG
          obtain ⟨hsh, yb, hyn, hyl, gx', cx', gu', cu', gt', ct', hyb, hrf, hni⟩ : ShE w3 B (doS s d) ∧ ∃ yb, wr.heap.size ≤ yb ∧ [σ 11] = [.pointer (some ⟨yb, 0, none⟩)] ∧ ∃ gx' cx' gu' cu' gt' ct', Blk w3 yb 51 [.slice (some ⟨gx', 0, none⟩) (doS s d).l.length cx', .slice (some ⟨gu', 0, none⟩) (doS s d).l.length cu', .slice (some ⟨gt', 0, none⟩) (doS s d).l.length ct', .int .i64 (doS s d).hand] ∧ RefAt w3 gx' cx' gu' cu' gt' ct' (doS s d) ∧ NotIn gx' gu' gt' B.wr := hH
          obtain hy : σ 11 = .pointer (some ⟨yb, 0, none⟩) := by simpa using hyl
          rw [hy]
          clear hyl hy
          have hfw : Fr B.wr wr w3 := (Fr.drew (Fr.refl _ _)).trans (FrT.fr hR (Nat.le_refl _))
          have HD3 : Hd (DoSt w w3 B gx' cx' gu' cu' gt' ct' (doS s d)) := Hd.mk ⟨hsh, hrf, fr_over HDS.out.fr HDS.out.new hfw, HDS.out.new, HDS.out.en.deed (RdE.zero _) HDS.out.rf.hand HDE.out.1⟩
          have HXB3 := Hd.mk (HXB.out.fr hfw HXW.out.1)
          have HYB3 := Hd.mk hyb
          have HXY : Hd (xb ≠ yb) := Hd.mk (by have := HXW.out.2; omega)
          clear hsh hyb hrf hni hfw hR
          obtain ⟨y0, y1, y2, y3, yf⟩ := HYB3.out.cells4
          obtain ⟨b0, b1, b2, b3, bf⟩ := HXB3.out.cells4
          go_upto_region 11 with (fail)
          refine wp_name ?_; intro w5 hw5
          obtain ⟨hx5, f5⟩ := Blk.four HXB3.out hw5
          clear y0 y1 y2 y3 yf b0 b1 b2 b3 bf hw5
          have HXB5 := Hd.mk hx5
          have HD5 := Hd.mk (HD3.out.fr1 f5 HXB3.out HXN.out)
          clear hx5 f5
          obtain ⟨s2, hs2⟩ : ∃ s2, doS s d = s2 := ⟨_, rfl⟩
          rw [hs2] at HD5 HXB5
          have HL2 : Hd (s2.l.length = rn) := Hd.mk (by rw [← hs2, deed_len]; exact HS4.out)
          have HKM : Hd ((keysS s2).length < 1000000) := Hd.mk (by have h1 := all_le s2; have h2 := HD5.out.rf.len; rw [keys_len]; omega)
          clear hs2
          refine wp_region_gs { R := Fr [], R1 := Fr [], gs := [Is (.bool true), Is (.bool false), Is (.bool false), Is (.pointer (some ⟨B.p, 0, none⟩)), (fun (v : Value) (w2 : World) => QRow w2 0 v (keysS s2)), Is (.agg #[.slice (some ⟨gx', 0, none⟩) s2.l.length cx', .slice (some ⟨gu', 0, none⟩) s2.l.length cu', .slice (some ⟨gt', 0, none⟩) s2.l.length ct', .int .i64 s2.hand]), (fun (v : Value) (w2 : World) => QRow w2 0 v (keysS s2)), Is (.bool true), Is (.bool false), Is (.bool false), Is (.bool false), Is (.pointer (some ⟨B.p, 0, none⟩)), Is (.int .i64 (keysS s2).length), Is (.agg #[.slice (some ⟨gx', 0, none⟩) s2.l.length cx', .slice (some ⟨gu', 0, none⟩) s2.l.length cu', .slice (some ⟨gt', 0, none⟩) s2.l.length ct', .int .i64 s2.hand]), (fun (v : Value) (w2 : World) => ∃ A c, v = .slice A (keysS s2).length c), Is (.int .i64 (keysS s2).length), Is (.bool false), Is (.bool false), Is (.bool false), Is (.pointer (some ⟨B.p, 0, none⟩)), Is (.int .i64 rn), Is (.int .i64 rn), Is (.bool false), Is (.bool false)], ds := [some 59, some 60, some 61, some 62, some 63, some 64, some 65, some 66, some 67, some 68, some 69, some 70, some 71, some 72, some 73, some 74, some 75, some 76, some 77, some 78, some 79, some 80, some 81, some 82], fl := [false, false, false, false, false, false, false, false, false, false, false, false, false, false, false, false, false, false, false, false, false, false, false, false], hs := [], hd := [] } [false, false, false, false, false, false, false, false, false, false, false, false, false, false, false, false, false, false, false, false, false, false, false, false, false, false, false, false, false, false, false, false, false, false, false, false, false, false, false, false, false, false, false, false, false, false, false, false, false, false, false, false, false, false, false, false, false, false, false, true, true, true, true, true, true, true, true, true, true, true, true, true, true, true, true, true, true, true, true, true, true, true, true, false] (by kernel_rfl) _ (by kernel_rfl) (by kernel_rfl) (by kernel_rfl) (by kernel_rfl) rfl [] (fun _ _ _ h1 h2 => h1.trans h2) (fun _ _ h => h) (staI (staI (staI (staI (sta (fun v _ _ hf h => own_fr h hf (by simp)) (staI (sta (fun v _ _ hf h => own_fr h hf (by simp)) (staI (staI (staI (staI (staI (staI (staI (sta (fun _ _ _ _ h => h) (staI (staI (staI (staI (staI (staI (staI (staI (staI sta0)))))))))))))))))))))))) sth0 (fun _ _ h => h.size) _ (Fr.refl _ _) trivial ?_ ?_
          · refine ⟨?_, ?_, ?_, ?_, ?_, ?_, ?_, ?_, ?_, ?_, ?_, ?_, ?_, ?_, ?_, ?_, ?_, ?_, ?_, ?_, ?_, ?_, ?_, ?_, trivial⟩
            · intro σ w' hR hd
              simp only [fill, Nat.reduceAdd, if_true, Bool.false_eq_true, if_false]
              clear hd
              go_wp2
              exact ⟨Fr.refl _ _, rfl⟩
            · intro σ w' hR hd
              simp only [fill, Nat.reduceAdd, if_true, Bool.false_eq_true, if_false]
              obtain h59 : σ 59 = _ := hd 0 (by decide)
              rw [h59]
              clear h59
              clear hd
              go_wp2
              exact ⟨Fr.refl _ _, rfl⟩
            · intro σ w' hR hd
              simp only [fill, Nat.reduceAdd, if_true, Bool.false_eq_true, if_false]
              obtain h60 : σ 60 = _ := hd 1 (by decide)
              rw [h60]
              clear h60
              clear hd
              go_wp2
              exact ⟨Fr.refl _ _, rfl⟩
            · intro σ w' hR hd
              simp only [fill, Nat.reduceAdd, if_true, Bool.false_eq_true, if_false]
              obtain h61 : σ 61 = _ := hd 2 (by decide)
              rw [h61]
              clear h61
              clear hd
              go_wp2
              exact ⟨Fr.refl _ _, rfl⟩
            · intro σ w' hR hd
              simp only [fill, Nat.reduceAdd, if_true, Bool.false_eq_true, if_false]
              obtain h61 : σ 61 = _ := hd 2 (by decide)
              obtain h62 : σ 62 = _ := hd 3 (by decide)
              rw [h61, h62]
              clear h61 h62
              clear hd
              go_wp2_with fail
              refine (keys_calls (HD5.out.sh.fr0 ((Fr.drew (Fr.refl [] _)).trans hR))).mono ?_
              rintro r w4 ⟨v4, rfl, hq4, -, -, hf4⟩
              have HQ4 := Hd.mk (own_base hq4 (Nat.zero_le _))
              have HF4 := Hd.mk hf4
              clear hq4 hf4
              go_wp2
              exact ⟨HF4.out, HQ4.out⟩
            · intro σ w' hR hd
              simp only [fill, Nat.reduceAdd, if_true, Bool.false_eq_true, if_false]
              obtain h61 : σ 61 = _ := hd 2 (by decide)
              rw [h61]
              clear h61
              clear hd
              obtain ⟨b0, b1, b2, b3, bf⟩ := (HXB5.out.fr ((Fr.drew (Fr.refl [] _)).trans hR) (by simp)).cells4
              go_wp2
              exact ⟨Fr.refl _ _, rfl⟩
            · intro σ w' hR hd
              simp only [fill, Nat.reduceAdd, if_true, Bool.false_eq_true, if_false]
              obtain h61 : σ 61 = _ := hd 2 (by decide)
              obtain h64 : σ 64 = _ := hd 5 (by decide)
              rw [h61, h64]
              clear h61 h64
              clear hd
              go_wp2_with fail
              refine (rkeys_calls (HD5.out.rf.fr ((Fr.drew (Fr.refl [] _)).trans hR))).mono ?_
              rintro r w4 ⟨v4, rfl, hq4, hf4⟩
              have HQ4 := Hd.mk (own_base hq4 (Nat.zero_le _))
              have HF4 := Hd.mk hf4
              clear hq4 hf4
              go_wp2
              exact ⟨HF4.out, HQ4.out⟩
            · intro σ w' hR hd
              simp only [fill, Nat.reduceAdd, if_true, Bool.false_eq_true, if_false]
              obtain h61 : σ 61 = _ := hd 2 (by decide)
              obtain hq63 : (fun (v : Value) (w2 : World) => QRow w2 0 v (keysS s2)) (σ 63) w' := hd 4 (by decide)
              obtain hq65 : (fun (v : Value) (w2 : World) => QRow w2 0 v (keysS s2)) (σ 65) w' := hd 6 (by decide)
              rw [h61]
              clear h61
              clear hd
              have HQ3 := Hd.mk hq63
              have HQ5 := Hd.mk hq65
              clear hq63 hq65
              go_wp2_with fail
              refine (asks_calls HQ3.out HQ5.out HKM.out).mono ?_
              rintro r w4 ⟨rfl, hf4⟩
              have HF4 := Hd.mk hf4
              clear hf4
              go_wp2
              exact ⟨HF4.out, rfl⟩
            · intro σ w' hR hd
              simp only [fill, Nat.reduceAdd, if_true, Bool.false_eq_true, if_false]
              obtain h61 : σ 61 = _ := hd 2 (by decide)
              obtain h66 : σ 66 = _ := hd 7 (by decide)
              rw [h61, h66]
              clear h61 h66
              clear hd
              go_wp2
              exact ⟨Fr.refl _ _, rfl⟩
            · intro σ w' hR hd
              simp only [fill, Nat.reduceAdd, if_true, Bool.false_eq_true, if_false]
              obtain h61 : σ 61 = _ := hd 2 (by decide)
              obtain h67 : σ 67 = _ := hd 8 (by decide)
              rw [h61, h67]
              clear h61 h67
              clear hd
              go_wp2
              exact ⟨Fr.refl _ _, rfl⟩
            · intro σ w' hR hd
              simp only [fill, Nat.reduceAdd, if_true, Bool.false_eq_true, if_false]
              obtain h68 : σ 68 = _ := hd 9 (by decide)
              rw [h68]
              clear h68
              clear hd
              go_wp2
              exact ⟨Fr.refl _ _, rfl⟩
            · intro σ w' hR hd
              simp only [fill, Nat.reduceAdd, if_true, Bool.false_eq_true, if_false]
              obtain h69 : σ 69 = _ := hd 10 (by decide)
              rw [h69]
              clear h69
              clear hd
              go_wp2
              exact ⟨Fr.refl _ _, rfl⟩
            · intro σ w' hR hd
              simp only [fill, Nat.reduceAdd, if_true, Bool.false_eq_true, if_false]
              obtain h69 : σ 69 = _ := hd 10 (by decide)
              obtain h70 : σ 70 = _ := hd 11 (by decide)
              rw [h69, h70]
              clear h69 h70
              clear hd
              obtain ⟨tu, hs⟩ := HD5.out.sh.fr0 ((Fr.drew (Fr.refl [] _)).trans hR)
              have HS := Hd.mk hs
              clear hs
              go_wp2_with fail
              refine (shlen_calls HS.out).mono ?_
              rintro r w4 ⟨rfl, hf4⟩
              have HF4 := Hd.mk hf4
              clear hf4
              go_wp2
              exact ⟨HF4.out, by rw [keys_len]; rfl⟩
            · intro σ w' hR hd
              simp only [fill, Nat.reduceAdd, if_true, Bool.false_eq_true, if_false]
              obtain h69 : σ 69 = _ := hd 10 (by decide)
              rw [h69]
              clear h69
              clear hd
              obtain ⟨b0, b1, b2, b3, bf⟩ := (HXB5.out.fr ((Fr.drew (Fr.refl [] _)).trans hR) (by simp)).cells4
              go_wp2
              exact ⟨Fr.refl _ _, rfl⟩
            · intro σ w' hR hd
              simp only [fill, Nat.reduceAdd, if_true, Bool.false_eq_true, if_false]
              obtain h69 : σ 69 = _ := hd 10 (by decide)
              obtain h72 : σ 72 = _ := hd 13 (by decide)
              rw [h69, h72]
              clear h69 h72
              clear hd
              go_wp2_with fail
              refine (rkeys_calls (HD5.out.rf.fr ((Fr.drew (Fr.refl [] _)).trans hR))).mono ?_
              rintro r w4 ⟨v4, rfl, hq4, hf4⟩
              have HQ4 := Hd.mk (own_base hq4 (Nat.zero_le _))
              have HF4 := Hd.mk hf4
              clear hq4 hf4
              obtain ⟨Ak, ck, rfl, -⟩ := own_any HQ4.out
              go_wp2
              exact ⟨HF4.out, _, _, rfl⟩
            · intro σ w' hR hd
              simp only [fill, Nat.reduceAdd, if_true, Bool.false_eq_true, if_false]
              obtain h69 : σ 69 = _ := hd 10 (by decide)
              obtain ⟨Ak, ck, hk73⟩ : (fun (v : Value) (w2 : World) => ∃ A c, v = .slice A (keysS s2).length c) (σ 73) w' := hd 14 (by decide)
              rw [h69]
              clear h69
              clear hd
              rw [hk73]
              clear hk73
              go_wp2
              exact ⟨Fr.refl _ _, rfl⟩
            · intro σ w' hR hd
              simp only [fill, Nat.reduceAdd, if_true, Bool.false_eq_true, if_false]
              obtain h69 : σ 69 = _ := hd 10 (by decide)
              obtain h71 : σ 71 = _ := hd 12 (by decide)
              obtain h74 : σ 74 = _ := hd 15 (by decide)
              rw [h69, h71, h74]
              clear h69 h71 h74
              clear hd
              go_wp2
              exact ⟨Fr.refl _ _, rfl⟩
            · intro σ w' hR hd
              simp only [fill, Nat.reduceAdd, if_true, Bool.false_eq_true, if_false]
              obtain h69 : σ 69 = _ := hd 10 (by decide)
              obtain h75 : σ 75 = _ := hd 16 (by decide)
              rw [h69, h75]
              clear h69 h75
              clear hd
              go_wp2
              exact ⟨Fr.refl _ _, rfl⟩
            · intro σ w' hR hd
              simp only [fill, Nat.reduceAdd, if_true, Bool.false_eq_true, if_false]
              obtain h76 : σ 76 = _ := hd 17 (by decide)
              rw [h76]
              clear h76
              clear hd
              go_wp2
              exact ⟨Fr.refl _ _, rfl⟩
            · intro σ w' hR hd
              simp only [fill, Nat.reduceAdd, if_true, Bool.false_eq_true, if_false]
              obtain h77 : σ 77 = _ := hd 18 (by decide)
              rw [h77]
              clear h77
              clear hd
              go_wp2
              exact ⟨Fr.refl _ _, rfl⟩
            · intro σ w' hR hd
              simp only [fill, Nat.reduceAdd, if_true, Bool.false_eq_true, if_false]
              obtain h77 : σ 77 = _ := hd 18 (by decide)
              obtain h78 : σ 78 = _ := hd 19 (by decide)
              rw [h77, h78]
              clear h77 h78
              clear hd
              obtain ⟨tu, hs⟩ := HD5.out.sh.fr0 ((Fr.drew (Fr.refl [] _)).trans hR)
              have HS := Hd.mk hs
              clear hs
              go_wp2_with fail
              refine (shroom_calls HS.out).mono ?_
              rintro r w4 ⟨rfl, rfl⟩
              rw [HL2.out]
              go_wp2
              exact ⟨Fr.refl _ _, rfl⟩
            · intro σ w' hR hd
              simp only [fill, Nat.reduceAdd, if_true, Bool.false_eq_true, if_false]
              obtain h77 : σ 77 = _ := hd 18 (by decide)
              rw [h77]
              clear h77
              clear hd
              go_wp2
              exact ⟨Fr.refl _ _, rfl⟩
            · intro σ w' hR hd
              simp only [fill, Nat.reduceAdd, if_true, Bool.false_eq_true, if_false]
              obtain h77 : σ 77 = _ := hd 18 (by decide)
              obtain h79 : σ 79 = _ := hd 20 (by decide)
              obtain h80 : σ 80 = _ := hd 21 (by decide)
              rw [h77, h79, h80]
              clear h77 h79 h80
              clear hd
              go_wp2
              exact ⟨Fr.refl _ _, rfl⟩
            · intro σ w' hR hd
              simp only [fill, Nat.reduceAdd, if_true, Bool.false_eq_true, if_false]
              obtain h77 : σ 77 = _ := hd 18 (by decide)
              obtain h81 : σ 81 = _ := hd 22 (by decide)
              rw [h77, h81]
              clear h77 h81
              clear hd
              go_wp2
              exact ⟨Fr.refl _ _, rfl⟩
          · intro σ w3 hR hG hH
            obtain h82 : σ 82 = _ := hG 23 (by decide)
            simp only [fill, Nat.reduceAdd, if_true, Bool.false_eq_true, if_false, h82]
            clear h82
            clear hG
            have HD6 := Hd.mk (HD5.out.fr0 ((Fr.drew (Fr.refl [] _)).trans hR))
            have HXB6 := Hd.mk (HXB5.out.fr ((Fr.drew (Fr.refl [] _)).trans hR) (by simp))
            clear hR hH
            go_wp2
            go_roundw
            case rel => exact ⟨k + 1, s2, gx', cx', gu', cu', gt', ct', by omega, by omega, by go_num, HD6.out, HXB6.out, HL2.out⟩
            case measure => simp [intOf]; omega
      · have HFE := Hd.mk HDS.out.fr
        go_wp2
        go_ret
        exact ⟨rfl, HFE.out⟩
    · have HFE := Hd.mk HDS.out.fr
      go_wp2
      go_ret
      exact ⟨rfl, HFE.out⟩
end Go.Proofs.Ytjfhdffmlnkooaa
