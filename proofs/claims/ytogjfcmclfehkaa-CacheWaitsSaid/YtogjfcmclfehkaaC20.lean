import Derived.Test.YtogjfcmclfehkaaC19
namespace Go.Proofs.Ytogjfcmclfehkaa
open Go Go.RowKit Go.Proofs.MapL PPM Go.Proofs.YtogjfcmclfehkaaW.PrintWords

def dnB (x : PS) (j : Nat) : Bool := if j = 0 then false else (itS x 1 j).fin 1
set_option maxRecDepth 100000 in
set_option maxHeartbeats 8000000 in
theorem waits_law (e o : En) (st now : Int) (hst : 0 ≤ st ∧ st < 256) (hne : e.q.name.size ≤ 1000000000000000) (hno : o.q.name.size ≤ 1000000000000000) (hte : TOk e.expire) (hto : TOk o.expire) (htn : TOk now) (w : World) :
    Calls Try.prog 5 #[e.v, o.v, .int .u8 st, .int .u64 now] w fun r w' => r = .returned (.bool true) ∧ Fr [] w w' := by
  have HNE := Hd.mk hne
  have HNO := Hd.mk hno
  have HNW := Hd.mk htn
  have HTE := Hd.mk hte
  have HTO := Hd.mk hto
  clear hne hno htn hte hto
  unfold En.v
  go_enter Try.func5, Try.ntmps5
  go_upto_region 1 with (fail)
  refine wp_name ?_; intro w0 hw0
  have hf0 : Fr [] w w0 := by rw [hw0]; exact ((Fr.refl [] w).alloc _).alloc _
  have hbe : Blk w0 w.heap.size 37 [.string e.q.name, .int .u16 e.q.ty, .int .u16 e.q.cl, .slice e.ra e.rn e.rc, .int .i64 e.rcode, .int .i64 e.rank, .int .u64 e.expire] := by rw [hw0]; exact (Blk.new _ _ _).alloc _
  have hbo : Blk w0 (w.heap.size + 1) 37 [.string o.q.name, .int .u16 o.q.ty, .int .u16 o.q.cl, .slice o.ra o.rn o.rc, .int .i64 o.rcode, .int .i64 o.rank, .int .u64 o.expire] := by
    rw [hw0]
    have h0 := Blk.new (w.alloc (.cells #[.string e.q.name, .int .u16 e.q.ty, .int .u16 e.q.cl, .slice e.ra e.rn e.rc, .int .i64 e.rcode, .int .i64 e.rank, .int .u64 e.expire] 37)) 37 [.string o.q.name, .int .u16 o.q.ty, .int .u16 o.q.cl, .slice o.ra o.rn o.rc, .int .i64 o.rcode, .int .i64 o.rank, .int .u64 o.expire]
    simp only [World.size_alloc] at h0
    exact h0
  clear hw0
  obtain ⟨be, h_be⟩ : ∃ p, w.heap.size = p := ⟨_, rfl⟩
  obtain ⟨bo, h_bo⟩ : ∃ p, be + 1 = p := ⟨_, rfl⟩
  simp only [h_be, h_bo] at hbe hbo ⊢
  have HE := Hd.mk hbe
  have HO := Hd.mk hbo
  have HF := Hd.mk hf0
  clear hbe hbo hf0 h_be h_bo
  go_wp2_with fail
  refine (shown_law _).mono ?_
  rintro r wn ⟨rfl, hf⟩
  have HE := Hd.mk (HE.out.fr hf (by simp))
  have HO := Hd.mk (HO.out.fr hf (by simp))
  have HF := Hd.mk (HF.out.trans hf)
  clear hf
  go_wp2_with fail
  refine (js_new 5 3 8 (by omega) (by omega) (by omega) (by omega) (by omega) _).mono ?_
  rintro r wc ⟨C, rfl, hj, hn, hf⟩
  have HB0 : Hd (w.heap.size ≤ wn.heap.size) := Hd.mk HF.out.size
  obtain ⟨b0, hb0⟩ : ∃ b, wn.heap.size = b := ⟨_, rfl⟩
  rw [hb0] at hj HB0
  have HE := Hd.mk (HE.out.fr hf (by simp))
  have HO := Hd.mk (HO.out.fr hf (by simp))
  have HF := Hd.mk (HF.out.trans hf)
  have HJ := Hd.mk hj
  have HN := Hd.mk hn
  clear hj hf hn hb0
  unfold pV
  obtain ⟨he_0, he_1, he_2, he_3, he_4, he_5, he_6, he_f⟩ := HE.out.cells7
  go_wp2_with fail
  clear he_0 he_1 he_2 he_3 he_4 he_5 he_6 he_f
  refine (js_begin HJ.out ⟨1, e, now⟩ (show e.q.name.size ≤ 1000000000000000 ∧ TOk e.expire ∧ TOk now ∧ ((1 : Int) ≤ 1 ∧ (1 : Int) ≤ 4) from ⟨HNE.out, HTE.out, HNW.out, by decide⟩).1 (show e.q.name.size ≤ 1000000000000000 ∧ TOk e.expire ∧ TOk now ∧ ((1 : Int) ≤ 1 ∧ (1 : Int) ≤ 4) from ⟨HNE.out, HTE.out, HNW.out, by decide⟩).2.1 (show e.q.name.size ≤ 1000000000000000 ∧ TOk e.expire ∧ TOk now ∧ ((1 : Int) ≤ 1 ∧ (1 : Int) ≤ 4) from ⟨HNE.out, HTE.out, HNW.out, by decide⟩).2.2.1 (show e.q.name.size ≤ 1000000000000000 ∧ TOk e.expire ∧ TOk now ∧ ((1 : Int) ≤ 1 ∧ (1 : Int) ≤ 4) from ⟨HNE.out, HTE.out, HNW.out, by decide⟩).2.2.2).mono ?_
  rintro r wn ⟨pa, rfl, hj, hf⟩
  have HE := Hd.mk (HE.out.fr hf (by simp))
  have HO := Hd.mk (HO.out.fr hf (by simp))
  have HF := Hd.mk (HF.out.trans hf)
  have HJ := Hd.mk hj
  clear hj hf
  unfold pV
  obtain ⟨ho_0, ho_1, ho_2, ho_3, ho_4, ho_5, ho_6, ho_f⟩ := HO.out.cells7
  go_wp2_with fail
  clear ho_0 ho_1 ho_2 ho_3 ho_4 ho_5 ho_6 ho_f
  refine (js_begin HJ.out ⟨1, o, now⟩ (show o.q.name.size ≤ 1000000000000000 ∧ TOk o.expire ∧ TOk now ∧ ((1 : Int) ≤ 1 ∧ (1 : Int) ≤ 4) from ⟨HNO.out, HTO.out, HNW.out, by decide⟩).1 (show o.q.name.size ≤ 1000000000000000 ∧ TOk o.expire ∧ TOk now ∧ ((1 : Int) ≤ 1 ∧ (1 : Int) ≤ 4) from ⟨HNO.out, HTO.out, HNW.out, by decide⟩).2.1 (show o.q.name.size ≤ 1000000000000000 ∧ TOk o.expire ∧ TOk now ∧ ((1 : Int) ≤ 1 ∧ (1 : Int) ≤ 4) from ⟨HNO.out, HTO.out, HNW.out, by decide⟩).2.2.1 (show o.q.name.size ≤ 1000000000000000 ∧ TOk o.expire ∧ TOk now ∧ ((1 : Int) ≤ 1 ∧ (1 : Int) ≤ 4) from ⟨HNO.out, HTO.out, HNW.out, by decide⟩).2.2.2).mono ?_
  rintro r wn ⟨pb, rfl, hj, hf⟩
  have HE := Hd.mk (HE.out.fr hf (by simp))
  have HO := Hd.mk (HO.out.fr hf (by simp))
  have HF := Hd.mk (HF.out.trans hf)
  have HJ := Hd.mk hj
  clear hj hf
  unfold pV
  obtain ⟨dA, hdA⟩ : ∃ d : Dd, (⟨1, e, now⟩ : Dd) = d := ⟨_, rfl⟩
  obtain ⟨dB, hdB⟩ : ∃ d : Dd, (⟨1, o, now⟩ : Dd) = d := ⟨_, rfl⟩
  obtain ⟨hE, hhE⟩ : ∃ h : Nat, hashK e.q 5 = h := ⟨_, rfl⟩
  obtain ⟨hO, hhO⟩ : ∃ h : Nat, hashK o.q 5 = h := ⟨_, rfl⟩
  have HLT : Hd (hE < 5 ∧ hO < 5) := Hd.mk ⟨by rw [← hhE]; exact hash_lt _ HNE.out 5 (by omega) (by omega), by rw [← hhO]; exact hash_lt _ HNO.out 5 (by omega) (by omega)⟩
  have hx : JsAt b0 wn C (wt0 dA dB hE hO) [pa, pb] := by
    have hj := HJ.out
    rw [HN.out] at hj
    have e1 : leftD (⟨1, e, now⟩ : Dd) 5 = [hE] := by unfold leftD; rw [if_neg (by show ¬ (1 : Int) = 4; decide)]; exact congrArg (· :: []) hhE
    have e2 : leftD (⟨1, o, now⟩ : Dd) 5 = [hO] := by unfold leftD; rw [if_neg (by show ¬ (1 : Int) = 4; decide)]; exact congrArg (· :: []) hhO
    rw [e1, e2] at hj
    rw [← hdA, ← hdB]
    exact hj
  have HJ := Hd.mk hx
  have HHE := Hd.mk (And.intro hhE hhO)
  have HDD := Hd.mk (And.intro hdA hdB)
  clear hx hdA hdB hhE hhO
  go_wp2_with fail
  refine (js_step (k := 0) HJ.out rfl (by have e : (wt0 dA dB hE hO).hist.length = 0 := rfl; omega)).mono ?_
  rintro r wn ⟨rfl, hj, hf⟩
  have HE := Hd.mk (HE.out.frn hf (by unfold Tok; decide))
  have HO := Hd.mk (HO.out.frn hf (by unfold Tok; decide))
  have HF := Hd.mk (hf.fr HF.out HB0.out)
  rw [wt0_0 HLT.out.1] at hj ⊢
  have HJ := Hd.mk hj
  clear hj hf
  go_wp2_with fail
  go_loopw [13, 14] (fun dn i wr => ∃ j : Nat, (j : Int) ≤ 3 + st ∧ i = .int .i64 j ∧ dn = .bool (dnB (wt1 dA dB hE hO) j) ∧ JsAt b0 wr C (itS (wt1 dA dB hE hO) 1 j) [pa, pb] ∧ Blk wr be 37 [.string e.q.name, .int .u16 e.q.ty, .int .u16 e.q.cl, .slice e.ra e.rn e.rc, .int .i64 e.rcode, .int .i64 e.rank, .int .u64 e.expire] ∧ Blk wr bo 37 [.string o.q.name, .int .u16 o.q.ty, .int .u16 o.q.cl, .slice o.ra o.rn o.rc, .int .i64 o.rcode, .int .i64 o.rank, .int .u64 o.expire] ∧ Fr [] w wr) (fun _ i _ => 400 - (intOf i).toNat)
  case atStart => exact ⟨0, by have := hst.1; omega, rfl, rfl, HJ.out, HE.out, HO.out, HF.out⟩
  case round =>
    obtain ⟨j, hj, rfl, rfl, hjs, hbe, hbo, hfr⟩ := hrel
    have HJ := Hd.mk hjs
    have HE := Hd.mk hbe
    have HO := Hd.mk hbo
    have HF := Hd.mk hfr
    clear hjs hbe hbo hfr
    by_cases hjn : (j : Int) < 3 + st
    · go_wp2_with fail
      refine (js_step (k := 1) HJ.out rfl (by have := itS_hist (wt1 dA dB hE hO) 1 j; have e : (wt1 dA dB hE hO).hist.length = 0 := rfl; omega)).mono ?_
      rintro r wn ⟨rfl, hj, hf⟩
      have HE := Hd.mk (HE.out.frn hf (by unfold Tok; decide))
      have HO := Hd.mk (HO.out.frn hf (by unfold Tok; decide))
      have HF := Hd.mk (hf.fr HF.out HB0.out)
      have HJ := Hd.mk hj
      clear hj hf
      go_wp2
      go_roundw
      case rel => exact ⟨j + 1, by omega, by go_num, by unfold dnB; rw [if_neg (by omega)]; rfl, HJ.out, HE.out, HO.out, HF.out⟩
      case measure => simp [intOf]; omega
    · obtain ⟨m, hm⟩ : ∃ m, j = m + 3 := ⟨j - 3, by omega⟩
      subst hm
      have HW := Hd.mk (waits (dA := dA) (dB := dB) HLT.out.1 HLT.out.2 m)
      obtain ⟨x4, hx4⟩ : ∃ x, itS (wt1 dA dB hE hO) 1 (m + 3) = x := ⟨_, rfl⟩
      rw [hx4] at HW HJ
      have hdn : dnB (wt1 dA dB hE hO) (m + 3) = !decide (hE = hO) := by
        unfold dnB
        rw [if_neg (by omega), hx4, HW.out.fin]
        by_cases h : hE = hO <;> simp [h]
      rw [hdn]
      obtain ⟨al, hal⟩ : ∃ b, decide (hE = hO) = b := ⟨_, rfl⟩
      have HAL : Hd (((hE : Int) == (hO : Int)) = al) := Hd.mk (by
        rw [← hal]
        by_cases h : hE = hO
        · subst h; simp
        · rw [decide_eq_false h, beq_eq_false_iff_ne]; omega)
      have HEV : Hd (∃ y, x4.js[1]? = some y ∧ y.ev.length = if al = true then 0 else 1) := Hd.mk (by
        obtain ⟨y, h1, h2⟩ := HW.out.j1
        refine ⟨y, h1, ?_⟩
        rw [h2, ← hal]
        by_cases h : hE = hO <;> simp [h])
      rw [hal]
      clear hx4 hdn hal hj
      have HED := Hd.mk HE.out.drew
      have HOD := Hd.mk HO.out.drew
      go_wp2_with fail
      refine wp_region_gs { R := Fr [], R1 := Fr [], gs := [Is (.pointer (some ⟨be, 0, none⟩)), Is (.agg #[.string e.q.name, .int .u16 e.q.ty, .int .u16 e.q.cl]), Is (.int .i64 hE), Is (.pointer (some ⟨bo, 0, none⟩)), Is (.agg #[.string o.q.name, .int .u16 o.q.ty, .int .u16 o.q.cl]), Is (.int .i64 hO), Is (.bool al), Is (.bool al)], ds := [some 51, some 52, some 53, some 54, some 55, some 56, some 57, some 15], fl := [false, false, false, false, false, false, false, false], hs := [], hd := [] } [false, false, false, false, false, false, false, false, false, false, false, false, false, false, false, true, false, false, false, false, false, false, false, false, false, false, false, false, false, false, false, false, false, false, false, false, false, false, false, false, false, false, false, false, false, false, false, false, false, false, false, true, true, true, true, true, true, true, false, false, false, false, false, false, false, false, false, false, false, false, false, false, false, false, false, false, false, false, false, false, false, false, false, false, false, false, false, false, false, false, false, false, false, false, false, false, false, false, false, false, false, false, false, false, false, false, false, false, false, false, false, false, false, false, false, false, false, false, false, false, false, false, false, false, false, false] (by kernel_rfl) _ (by kernel_rfl) (by kernel_rfl) (by kernel_rfl) (by kernel_rfl) rfl [] (fun _ _ _ h1 h2 => h1.trans h2) (fun _ _ h => h) (staI (staI (staI (staI (staI (staI (staI (staI sta0)))))))) sth0 (fun _ _ h => h.size) _ (Fr.refl _ _) trivial ?_ ?_
      · refine ⟨?_, ?_, ?_, ?_, ?_, ?_, ?_, ?_, trivial⟩
        · intro σ w' hR hd
          simp only [fill, Nat.reduceAdd, if_true, Bool.false_eq_true, if_false]
          clear hd
          go_wp2
          exact ⟨Fr.refl _ _, rfl⟩
        · intro σ w' hR hd
          simp only [fill, Nat.reduceAdd, if_true, Bool.false_eq_true, if_false]
          obtain h51 : σ 51 = _ := hd 0 (by decide)
          rw [h51]
          clear h51
          clear hd
          have be0 : w'.cell? ⟨be, 0, none⟩ = some (.string e.q.name) := (HED.out.fr hR (by simp)).cell (i := 0) rfl
          have be1 : w'.cell? ⟨be, 1, none⟩ = some (.int .u16 e.q.ty) := (HED.out.fr hR (by simp)).cell (i := 1) rfl
          have be2 : w'.cell? ⟨be, 2, none⟩ = some (.int .u16 e.q.cl) := (HED.out.fr hR (by simp)).cell (i := 2) rfl
          go_wp2
          exact ⟨Fr.refl _ _, rfl⟩
        · intro σ w' hR hd
          simp only [fill, Nat.reduceAdd, if_true, Bool.false_eq_true, if_false]
          obtain h52 : σ 52 = _ := hd 1 (by decide)
          rw [h52]
          clear h52
          clear hd
          go_wp2_with fail
          refine (ref_calls e.q HNE.out 5 (by omega) (by omega) _).mono ?_
          rintro r w4 ⟨rfl, hf4⟩
          have HF4 := Hd.mk hf4
          rw [HHE.out.1]
          clear hf4
          go_wp2
          exact ⟨HF4.out, rfl⟩
        · intro σ w' hR hd
          simp only [fill, Nat.reduceAdd, if_true, Bool.false_eq_true, if_false]
          clear hd
          go_wp2
          exact ⟨Fr.refl _ _, rfl⟩
        · intro σ w' hR hd
          simp only [fill, Nat.reduceAdd, if_true, Bool.false_eq_true, if_false]
          obtain h54 : σ 54 = _ := hd 3 (by decide)
          rw [h54]
          clear h54
          clear hd
          have bo0 : w'.cell? ⟨bo, 0, none⟩ = some (.string o.q.name) := (HOD.out.fr hR (by simp)).cell (i := 0) rfl
          have bo1 : w'.cell? ⟨bo, 1, none⟩ = some (.int .u16 o.q.ty) := (HOD.out.fr hR (by simp)).cell (i := 1) rfl
          have bo2 : w'.cell? ⟨bo, 2, none⟩ = some (.int .u16 o.q.cl) := (HOD.out.fr hR (by simp)).cell (i := 2) rfl
          go_wp2
          exact ⟨Fr.refl _ _, rfl⟩
        · intro σ w' hR hd
          simp only [fill, Nat.reduceAdd, if_true, Bool.false_eq_true, if_false]
          obtain h55 : σ 55 = _ := hd 4 (by decide)
          rw [h55]
          clear h55
          clear hd
          go_wp2_with fail
          refine (ref_calls o.q HNO.out 5 (by omega) (by omega) _).mono ?_
          rintro r w4 ⟨rfl, hf4⟩
          have HF4 := Hd.mk hf4
          rw [HHE.out.2]
          clear hf4
          go_wp2
          exact ⟨HF4.out, rfl⟩
        · intro σ w' hR hd
          simp only [fill, Nat.reduceAdd, if_true, Bool.false_eq_true, if_false]
          obtain h53 : σ 53 = _ := hd 2 (by decide)
          obtain h56 : σ 56 = _ := hd 5 (by decide)
          rw [h53, h56]
          clear h53 h56
          clear hd
          have hal := HAL.out
          go_wp2
          exact ⟨Fr.refl _ _, rfl⟩
        · intro σ w' hR hd
          simp only [fill, Nat.reduceAdd, if_true, Bool.false_eq_true, if_false]
          obtain h57 : σ 57 = _ := hd 6 (by decide)
          rw [h57]
          clear h57
          clear hd
          go_wp2
          exact ⟨Fr.refl _ _, rfl⟩
      · intro σ w3 hR hG hH
        obtain h15 : σ 15 = _ := hG 7 (by decide)
        simp only [fill, Nat.reduceAdd, if_true, Bool.false_eq_true, if_false, h15]
        clear h15
        clear hG
        have hfd := (Fr.drew (Fr.refl [] wr)).trans hR
        have HE := Hd.mk (HE.out.fr hfd (by simp))
        have HO := Hd.mk (HO.out.fr hfd (by simp))
        have HF := Hd.mk (HF.out.trans hfd)
        have HJ := Hd.mk (HJ.out.fr0 hfd)
        clear hR hH hfd
        obtain ⟨wr2, hwr2⟩ : ∃ x, w3 = x := ⟨_, rfl⟩
        rw [hwr2] at HE HO HF HJ ⊢
        clear hwr2
        go_wp2_with fail
        refine (js_locked HJ.out ⟨4, zeroEn, now⟩ (show zeroEn.q.name.size ≤ 1000000000000000 by decide) (show TOk zeroEn.expire from ⟨by decide, by decide⟩) HNW.out (show (1 : Int) ≤ 4 ∧ (4 : Int) ≤ 4 by decide) (i := hE) (m := 0) (by rw [HN.out]; show hE ∈ List.range 5; rw [List.mem_range]; exact HLT.out.1) (by rw [HW.out.who]; exact whoE HLT.out.1)).mono ?_
        rintro r wn ⟨rfl, hf⟩
        have HE := Hd.mk (HE.out.fr hf (by simp))
        have HO := Hd.mk (HO.out.fr hf (by simp))
        have HF := Hd.mk (HF.out.trans hf)
        have HJ := Hd.mk (HJ.out.fr0 hf)
        clear hf
        go_wp2_with fail
        obtain ⟨y1, hy1, hyl⟩ := HEV.out
        refine (js_events (k := 1) (y := y1) HJ.out rfl hy1 (by have := HW.out.hist; omega)).mono ?_
        rintro r wn ⟨v1, ev1, rfl, ho, ht, -, hf⟩
        have hl1 : ev1.length = y1.ev.length := by rw [← ht, tells_len]
        obtain ⟨n1, hn1⟩ : ∃ n : Nat, ev1.length = n := ⟨_, rfl⟩
        have HN1 : Hd (n1 = if al = true then 0 else 1) := Hd.mk (by rw [← hn1, hl1, hyl])
        obtain ⟨A1, c1, hv1⟩ : ∃ A c, v1 = .slice A n1 c := by
          rcases ho.2 with ⟨e, e2⟩ | ⟨g, cap, cur, e, -⟩
          · exact ⟨_, _, by rw [e, ← hn1, e2]⟩
          · exact ⟨_, cap, by rw [e, hn1]⟩
        subst hv1
        have HE := Hd.mk (HE.out.fr hf (by simp))
        have HO := Hd.mk (HO.out.fr hf (by simp))
        have HF := Hd.mk (HF.out.trans hf)
        have HJ := Hd.mk (HJ.out.fr0 hf)
        clear ho ht hf hl1 hn1 hy1 hyl
        go_wp2_with fail
        refine (js_step (k := 0) HJ.out rfl (by have := HW.out.hist; omega)).mono ?_
        rintro r wn ⟨rfl, hj, hf⟩
        have HE := Hd.mk (HE.out.frn hf (by unfold Tok; decide))
        have HO := Hd.mk (HO.out.frn hf (by unfold Tok; decide))
        have HF := Hd.mk (hf.fr HF.out HB0.out)
        have HJ := Hd.mk hj
        clear hj hf
        go_wp2_with fail
        refine (js_step (k := 0) HJ.out rfl (by have := (HW.out.next HLT.out.1).1; omega)).mono ?_
        rintro r wn ⟨rfl, hj, hf⟩
        have HE := Hd.mk (HE.out.frn hf (by unfold Tok; decide))
        have HO := Hd.mk (HO.out.frn hf (by unfold Tok; decide))
        have HF := Hd.mk (hf.fr HF.out HB0.out)
        have HJ := Hd.mk hj
        clear hj hf
        have HNX := Hd.mk (HW.out.next HLT.out.1)
        obtain ⟨x6, hx6⟩ : ∃ x, (x4.step 0).step 0 = x := ⟨_, rfl⟩
        rw [hx6] at HNX HJ
        clear hx6
        obtain ⟨he_0, he_1, he_2, he_3, he_4, he_5, he_6, he_f⟩ := HE.out.cells7
        go_wp2_with fail
        clear he_0 he_1 he_2 he_3 he_4 he_5 he_6 he_f
        refine (js_do HJ.out (by rw [HN.out]; exact HNX.out.2.1) ⟨3, e, now⟩ HNE.out HTE.out HNW.out (show (1 : Int) ≤ 3 ∧ (3 : Int) ≤ 4 by decide) (by have := HNX.out.2.2.2; omega)).mono ?_
        rintro r wn ⟨v2, ev2, rfl, ho, ht, -, hj, hf⟩
        have hl2 : ev2.length = 1 := by
          have h1 := congrArg List.length ht
          rw [tells_len, finE_len] at h1
          rw [h1]
          unfold leftD
          rw [if_neg (by show ¬ (3 : Int) = 4; decide)]
          rfl
        obtain ⟨g2, c2, hv2, -, -⟩ := own_form ho (by omega)
        rw [hl2] at hv2
        subst hv2
        have HE := Hd.mk (HE.out.frn hf (by unfold Tok; decide))
        have HO := Hd.mk (HO.out.frn hf (by unfold Tok; decide))
        have HF := Hd.mk (hf.fr HF.out HB0.out)
        obtain ⟨x7, hx7⟩ : ∃ x : PS, ({ ss := finS ⟨3, e, now⟩ x6.ss (leftD ⟨3, e, now⟩ C.ps.length), who := x6.who, js := x6.js, hist := x6.hist ++ ev2.map Ev.tr } : PS) = x := ⟨_, rfl⟩
        have HX7 : Hd ((∃ y, x7.js[0]? = some y ∧ y.ev.length = 1) ∧ x7.hist.length ≤ 4) := Hd.mk (by
          rw [← hx7]
          refine ⟨HNX.out.2.2.1, ?_⟩
          show (x6.hist ++ ev2.map Ev.tr).length ≤ 4
          rw [List.length_append, List.length_map, hl2]
          have := HNX.out.2.2.2
          omega)
        rw [hx7] at hj
        have HJ := Hd.mk hj
        clear hj hf ho ht hl2 hx7
        have hn1 := HN1.out
        clear HE HO HAL HEV HN1
        cases al
        all_goals
          simp only [if_true, Bool.false_eq_true, if_false] at hn1
          subst hn1
          simp only [Int.ofNat_zero, Int.ofNat_one, Int.cast_ofNat_Int]
          go_wp2_with fail
          obtain ⟨y2, hy2, hyl2⟩ := HX7.out.1
          refine (js_events (k := 0) (y := y2) HJ.out rfl hy2 (by have := HX7.out.2; omega)).mono ?_
          rintro r wn ⟨v3, ev3, rfl, ho, ht, -, hf⟩
          have hl3 : ev3.length = 1 := by rw [← tells_len, ht, hyl2]
          obtain ⟨g3, c3, hv3, -, -⟩ := own_form ho (by omega)
          rw [hl3] at hv3
          subst hv3
          have HF := Hd.mk (HF.out.trans hf)
          clear ho ht hf hl3 hy2 hyl2
          go_wp2_with fail
          refine (begin_nil ⟨1, zeroEn, 0⟩ _).mono ?_
          rintro r wn ⟨rfl, hf⟩
          have HF := Hd.mk (HF.out.trans hf)
          clear hf
          go_wp2_with fail
          refine (do_none (.pointer none) ⟨1, zeroEn, 0⟩ (.inl rfl) _).mono ?_
          rintro r wn ⟨rfl, hf⟩
          have HF := Hd.mk (HF.out.trans hf)
          clear hf
          go_wp2_with fail
          refine (clen_nil _).mono ?_
          rintro r wn ⟨rfl, rfl⟩
          go_wp2_with fail
          refine (step_nil _).mono ?_
          rintro r wn ⟨rfl, rfl⟩
          go_wp2
          go_ret
          exact ⟨rfl, HF.out⟩
end Go.Proofs.Ytogjfcmclfehkaa
