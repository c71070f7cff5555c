import Derived.Test.YtogjfcmclfehkaaC24a
namespace Go.Proofs.Ytogjfcmclfehkaa
open Go Go.RowKit Go.Proofs.MapL PPM Go.Proofs.YtogjfcmclfehkaaW.PrintWords

set_option maxRecDepth 100000 in
set_option maxHeartbeats 8000000 in
theorem one_law (sh : Int) (hsh : 0 ≤ sh ∧ sh < 256) {v : Value} {ds : List Dd} {W : World} (hD : DeedsAt W v ds) (e : En) (hre : RdE W e) (hne : e.q.name.size ≤ 1000000000000000) (now : Int) (htn : TOk now) :
    Calls Try.prog 4 #[.int .u8 sh, v, e.v, .int .u64 now] W fun r w' => r = .returned (.bool true) ∧ Fr [] W w' := by
  have HNE := Hd.mk hne
  have HNW := Hd.mk htn
  have HRE := Hd.mk hre
  have HD := Hd.mk hD
  obtain ⟨A, c, rfl, hat⟩ := hD.at_
  have HAT := Hd.mk hat
  have HLE := Hd.mk hD.le
  obtain ⟨sn, rfl⟩ : ∃ n : Nat, sh = n := Int.eq_ofNat_of_zero_le hsh.1
  have hs256 : sn < 256 := by omega
  clear hne htn hre hD hat hsh
  unfold En.v
  go_enter Try.func4, Try.ntmps4
  go_upto_region 1 with (fail)
  refine wp_name ?_; intro w0 hw0
  have hf0 := alloc_of hw0
  have hbe := blk_of (T := 37) (c := [.string e.q.name, .int .u16 e.q.ty, .int .u16 e.q.cl, .slice e.ra e.rn e.rc, .int .i64 e.rcode, .int .i64 e.rank, .int .u64 e.expire]) hw0
  clear hw0
  obtain ⟨be, h_be⟩ : ∃ p, W.heap.size = p := ⟨_, rfl⟩
  rw [h_be] at hbe ⊢
  have HE := Hd.mk hbe
  have HF := Hd.mk hf0
  clear hbe hf0 h_be
  go_wp2_with fail
  refine (shown_law _).mono ?_
  rintro r wn ⟨rfl, hf⟩
  have HE := Hd.mk (HE.out.fr hf (by simp))
  have HF := Hd.mk (HF.out.trans hf)
  clear hf
  have HN16 : Hd (1 ≤ 1 + sn % 16 ∧ 1 + sn % 16 ≤ 16) := Hd.mk ⟨by omega, by omega⟩
  go_wp2_with fail
  obtain ⟨n, hn0⟩ : ∃ n : Nat, 1 + sn % 16 = n := ⟨_, rfl⟩
  rw [show ((1 : Int) + (sn : Int) % 16) = ((1 + sn % 16 : Nat) : Int) by omega]
  rw [hn0] at HN16 ⊢
  clear hn0
  refine (new_cache n 3 8 (by omega) (by omega) (by omega) (by omega) HN16.out _).mono ?_
  rintro r wc ⟨C, rfl, hc, hn, hf, hb⟩
  have HCB : Hd ((∀ z ∈ C.wr, W.heap.size ≤ z) ∧ W.heap.size ≤ C.n0) := Hd.mk (by
    have h1 := HF.out.size
    refine ⟨fun z hz => Nat.le_trans h1 (hb z (C.wr_all z hz)), ?_⟩
    have h2 := hb C.pc (by unfold CB.all; simp)
    have h3 := hc.ok.pc
    omega)
  have HE := Hd.mk (HE.out.fr hf (by simp))
  have HF := Hd.mk (HF.out.trans hf)
  have HC := Hd.mk hc
  have HN := Hd.mk hn
  have HW : Hd (List.replicate n none = noW C.ps.length) := Hd.mk (by rw [hn]; rfl)
  clear hc hf hn hb hs256
  unfold pV
  go_wp2_with fail
  go_loopw [11] (fun i wr => ∃ (j : Nat) (hv : Value) (c : Cs), j ≤ ds.length ∧ j ≤ 30 ∧ i = .int .i64 j ∧ CAt wr C hv c ∧ c.who = noW C.ps.length ∧ c.hist.length ≤ 16 * j ∧ Blk wr be 37 [.string e.q.name, .int .u16 e.q.ty, .int .u16 e.q.cl, .slice e.ra e.rn e.rc, .int .i64 e.rcode, .int .i64 e.rank, .int .u64 e.expire] ∧ Fr [] W wr) (fun i _ => 40 - (intOf i).toNat)
  case atStart => exact ⟨0, _, _, Nat.zero_le _, by omega, rfl, HC.out, HW.out, Nat.zero_le _, HE.out, HF.out⟩
  case round =>
    obtain ⟨j, hv, c, hj, hj30, rfl, hc, hw, hh, hbe, hfr⟩ := hrel
    have HC := Hd.mk hc
    have HW := Hd.mk hw
    have HH := Hd.mk hh
    have HE := Hd.mk hbe
    have HF := Hd.mk hfr
    clear hc hw hh hbe hfr
    have hle := HLE.out
    by_cases hlt : j < ds.length ∧ j < 30
    · obtain ⟨hl1, hl2⟩ := hlt
      obtain ⟨g, off, rfl, hgl, hcc⟩ := HAT.out (by omega)
      obtain ⟨d, hd⟩ : ∃ d, ds[j] = d := ⟨_, rfl⟩
      have hcd := hcc j hl1
      have hrd := HD.out.rr (ds[j]) (List.getElem_mem hl1)
      rw [hd] at hcd hrd
      have HRD := Hd.mk hrd
      have hwr : ∀ k u, d.c[k]? = some u → wr.cell? ⟨g, off + j * 9 + k, none⟩ = some u := fun k u hu => HF.out.cell (hcd k u hu) (by simp)
      have c0 : wr.cell? ⟨g, off + j * 9, none⟩ = some (.int .i64 d.kind) := hwr 0 _ rfl
      have c1 : wr.cell? ⟨g, off + j * 9 + 1, none⟩ = some (.string d.e.q.name) := hwr 1 _ rfl
      have c2 : wr.cell? ⟨g, off + j * 9 + 2, none⟩ = some (.int .u16 d.e.q.ty) := hwr 2 _ rfl
      have c3 : wr.cell? ⟨g, off + j * 9 + 3, none⟩ = some (.int .u16 d.e.q.cl) := hwr 3 _ rfl
      have c4 : wr.cell? ⟨g, off + j * 9 + 4, none⟩ = some (.slice d.e.ra d.e.rn d.e.rc) := hwr 4 _ rfl
      have c5 : wr.cell? ⟨g, off + j * 9 + 5, none⟩ = some (.int .i64 d.e.rcode) := hwr 5 _ rfl
      have c6 : wr.cell? ⟨g, off + j * 9 + 6, none⟩ = some (.int .i64 d.e.rank) := hwr 6 _ rfl
      have c7 : wr.cell? ⟨g, off + j * 9 + 7, none⟩ = some (.int .u64 d.e.expire) := hwr 7 _ rfl
      have c8 : wr.cell? ⟨g, off + j * 9 + 8, none⟩ = some (.int .u64 d.now) := hwr 8 _ rfl
      clear hcd hrd hwr hcc hd
      go_wp2_with fail
      clear c0 c1 c2 c3 c4 c5 c6 c7 c8
      refine (made_calls d _).mono ?_
      rintro r wn ⟨rfl, hf⟩
      have HC := Hd.mk (HC.out.fr0 hf)
      have HE := Hd.mk (HE.out.fr hf (by simp))
      have HF := Hd.mk (HF.out.trans hf)
      clear hf
      go_wp2_with fail
      refine (do_any1 HC.out HW.out (by have := HH.out; omega) d HRD.out.2.2 HRD.out.1.t HRD.out.2.1).mono ?_
      rintro r wk ⟨v', hv', ss', h', rfl, hc', hhl, hf⟩
      have HE := Hd.mk (HC.out.box HE.out (by unfold Tok; decide) hf)
      have HF := Hd.mk (HC.out.step0 HCB.out.1 HCB.out.2 HF.out hf)
      have HC := Hd.mk hc'
      have HH2 : Hd (h'.length ≤ 16 * (j + 1)) := Hd.mk (by have := HH.out; omega)
      clear hc' hhl hf
      go_wp2
      go_roundw
      case rel => exact ⟨j + 1, _, _, by omega, by omega, by go_num, HC.out, rfl, HH2.out, HE.out, HF.out⟩
      case measure => simp [intOf]; omega
    · have hcnd : ¬ ((j : Int) < ds.length) ∨ ((j : Int) < ds.length ∧ ¬ ((j : Int) < 30)) := by omega
      have hlh : c.hist.length ≤ 1000 := by have := HH.out; omega
      have HLH := Hd.mk hlh
      obtain ⟨i0, hi0⟩ : ∃ i, hashK e.q C.ps.length = i := ⟨_, rfl⟩
      have HIL : Hd (i0 < C.ps.length) := Hd.mk (by rw [← hi0]; have := HN16.out; exact hash_lt _ HNE.out _ (by rw [HN.out]; exact this.1) (by rw [HN.out]; exact this.2))
      have HI0 := Hd.mk hi0
      obtain ⟨hU, hhd⟩ := HC.out.uq HIL.out
      have HP := Hd.mk (one_pure hU hhd e now)
      obtain ⟨s, hs⟩ : ∃ s, ssAt c.ss i0 = s := ⟨_, rfl⟩
      rw [hs] at HP
      have HSS := Hd.mk hs
      have HIS : Hd (i0 < c.ss.length) := Hd.mk (by rw [HC.out.sl]; exact HIL.out)
      have HLD : Hd (∀ d : Dd, d.kind ≠ 4 → d.e.q = e.q → leftD d C.ps.length = [i0]) := Hd.mk (fun d h1 h2 => by unfold leftD; rw [if_neg h1, h2, HI0.out])
      obtain ⟨lv, hlv⟩ : ∃ b, liveB e.expire now = b := ⟨_, rfl⟩
      rw [hlv] at HP
      have HLV := Hd.mk hlv
      clear hi0 hU hhd hs hlv hlh hlt
      obtain ⟨e0, e1, e2, e3, e4, e5, e6, ef⟩ := HE.out.cells7
      rcases hcnd with hcnd | ⟨hcnd, hcnd2⟩
      all_goals
        go_wp2_with fail
        clear e0 e1 e2 e3 e4 e5 e6 ef
        refine (do_calls HC.out ⟨3, e, now⟩ HNE.out HRE.out.t HNW.out (show (1 : Int) ≤ 3 ∧ (3 : Int) ≤ 4 by decide) HW.out (by have := HLH.out; omega)).mono ?_
        rintro r wn ⟨v1, hv1, ev1, rfl, -, -, ht, -, hc', hf, -, -⟩
        rw [HLD.out ⟨3, e, now⟩ (show (3 : Int) ≠ 4 by decide) rfl] at hc' ht
        have hss : finS ⟨3, e, now⟩ c.ss [i0] = c.ss.set i0 (evictS s e.q) := by
          show c.ss.set i0 (doneS (ssAt c.ss i0) ⟨3, e, now⟩) = _
          rw [HSS.out]; rfl
        rw [hss] at hc'
        have hl1 : ev1.length = 1 := by rw [← tells_len, ht, finE_len]; rfl
        have HE := Hd.mk (HC.out.box HE.out (by unfold Tok; decide) hf)
        have HF := Hd.mk (HC.out.step0 HCB.out.1 HCB.out.2 HF.out hf)
        have HC := Hd.mk hc'
        have HL1 : Hd ((c.hist ++ ev1).length ≤ 1001) := Hd.mk (by rw [List.length_append, hl1]; have := HLH.out; omega)
        clear hc' ht hf hss hl1
        obtain ⟨h1, hh1⟩ : ∃ h, c.hist ++ ev1 = h := ⟨_, rfl⟩
        rw [hh1] at HC HL1
        clear hh1
        obtain ⟨e0, e1, e2, e3, e4, e5, e6, ef⟩ := HE.out.cells7
        go_wp2_with fail
        clear e0 e1 e2 e3 e4 e5 e6 ef
        refine (do_calls HC.out ⟨1, e, now⟩ HNE.out HRE.out.t HNW.out (show (1 : Int) ≤ 1 ∧ (1 : Int) ≤ 4 by decide) rfl (by have := HL1.out; show h1.length ≤ _; omega)).mono ?_
        rintro r wn ⟨v2, hv2, ev2, rfl, hown, -, ht, -, hc', hf, ho2, hne2⟩
        rw [HLD.out ⟨1, e, now⟩ (show (1 : Int) ≠ 4 by decide) rfl] at hc' ht
        have hsa : ssAt (c.ss.set i0 (evictS s e.q)) i0 = evictS s e.q := by unfold ssAt; rw [List.getElem?_set_self HIS.out]; rfl
        have hss : finS ⟨1, e, now⟩ (c.ss.set i0 (evictS s e.q)) [i0] = c.ss.set i0 (insR (evictS s e.q) e now).1 := by
          show (c.ss.set i0 (evictS s e.q)).set i0 (doneS (ssAt (c.ss.set i0 (evictS s e.q)) i0) ⟨1, e, now⟩) = _
          rw [hsa, List.set_set]; rfl
        have htt : finE ⟨1, e, now⟩ (c.ss.set i0 (evictS s e.q)) [i0] = [(i0, doneT (evictS s e.q) ⟨1, e, now⟩)] := by
          show [(i0, doneT (ssAt (c.ss.set i0 (evictS s e.q)) i0) ⟨1, e, now⟩)] = _
          rw [hsa]
        rw [hss] at hc'
        have ht2 : tells ev2 = [(i0, doneT (evictS s e.q) ⟨1, e, now⟩)] := ht.trans htt
        have hl2 : ev2.length = 1 := by rw [← tells_len, ht2]; rfl
        obtain ⟨x2, rfl⟩ : ∃ x, ev2 = [x] := List.length_eq_one_iff.1 hl2
        have hx2 : x2.i = i0 ∧ x2.t = doneT (evictS s e.q) ⟨1, e, now⟩ := by simp only [tells, List.map_cons, List.map_nil, List.cons.injEq, and_true, Prod.mk.injEq] at ht2; exact ht2
        obtain ⟨g1, c1, hv2e, -, -⟩ := own_form hown (by simp)
        simp only [List.length_singleton] at hv2e
        subst hv2e
        have HE := Hd.mk (HC.out.box HE.out (by unfold Tok; decide) hf)
        have HF := Hd.mk (HC.out.step0 HCB.out.1 HCB.out.2 HF.out hf)
        have HC := Hd.mk hc'
        have HO := Hd.mk hown
        have HNE2 := Hd.mk hne2
        have HX2 := Hd.mk hx2
        have HL2 : Hd ((h1 ++ [x2]).length ≤ 1002) := Hd.mk (by rw [List.length_append]; have := HL1.out; simp; omega)
        clear hc' ht hf hss hl2 hown ho2 hne2 hsa htt ht2 hx2
        obtain ⟨h2, hh2⟩ : ∃ h, h1 ++ [x2] = h := ⟨_, rfl⟩
        rw [hh2] at HC HL2
        clear hh2
        obtain ⟨e0, e1, e2, e3, e4, e5, e6, ef⟩ := HE.out.cells7
        go_wp2_with fail
        clear e0 e1 e2 e3 e4 e5 e6 ef
        refine (do_calls HC.out ⟨2, ⟨e.q, none, 0, 0, 0, 0, 0⟩, now⟩ HNE.out (show TOk 0 from ⟨by decide, by decide⟩) HNW.out (show (1 : Int) ≤ 2 ∧ (2 : Int) ≤ 4 by decide) rfl (by have := HL2.out; show h2.length ≤ _; omega)).mono ?_
        rintro r wk ⟨v3, hv3, ev3, rfl, hown, -, ht, -, hc', hf, ho3, hne3⟩
        rw [HLD.out ⟨2, ⟨e.q, none, 0, 0, 0, 0, 0⟩, now⟩ (show (2 : Int) ≠ 4 by decide) rfl] at ht
        have hsa : ssAt (c.ss.set i0 (insR (evictS s e.q) e now).1) i0 = (insR (evictS s e.q) e now).1 := by unfold ssAt; rw [List.getElem?_set_self HIS.out]; rfl
        have htt : finE ⟨2, ⟨e.q, none, 0, 0, 0, 0, 0⟩, now⟩ (c.ss.set i0 (insR (evictS s e.q) e now).1) [i0] = [(i0, doneT (insR (evictS s e.q) e now).1 ⟨2, ⟨e.q, none, 0, 0, 0, 0, 0⟩, now⟩)] := by
          show [(i0, doneT (ssAt (c.ss.set i0 (insR (evictS s e.q) e now).1) i0) _)] = _
          rw [hsa]
        have ht3 := ht.trans htt
        have hl3 : ev3.length = 1 := by rw [← tells_len, ht3]; rfl
        obtain ⟨x3, rfl⟩ : ∃ x, ev3 = [x] := List.length_eq_one_iff.1 hl3
        have hx3 : x3.i = i0 ∧ x3.t = doneT (insR (evictS s e.q) e now).1 ⟨2, ⟨e.q, none, 0, 0, 0, 0, 0⟩, now⟩ := by simp only [tells, List.map_cons, List.map_nil, List.cons.injEq, and_true, Prod.mk.injEq] at ht3; exact ht3
        obtain ⟨g2, c2, hv3e, -, -⟩ := own_form hown (by simp)
        simp only [List.length_singleton] at hv3e
        subst hv3e
        have hoa := HC.out.evrow HO.out HNE2.out hf
        have HE := Hd.mk (HC.out.box HE.out (by unfold Tok; decide) hf)
        have HF := Hd.mk (HC.out.step0 HCB.out.1 HCB.out.2 HF.out hf)
        have ca : ∀ k u, x2.c[k]? = some u → wk.cell? ⟨g1, k, none⟩ = some u := fun k u hu => by
          have h1 := own_cells hoa k u (by simpa using hu)
          rw [add_at] at h1
          simpa using h1
        have cb : ∀ k u, x3.c[k]? = some u → wk.cell? ⟨g2, k, none⟩ = some u := fun k u hu => by
          have h1 := own_cells hown k u (by simpa using hu)
          rw [add_at] at h1
          simpa using h1
        obtain ⟨hxi2, hxt2⟩ := HX2.out
        obtain ⟨hxi3, hxt3⟩ := hx3
        obtain ⟨er, her⟩ : ∃ x, (insR (evictS s e.q) e now).2.2 = x := ⟨_, rfl⟩
        have hp := HP.out
        rw [her] at hp
        have HER : Hd ((er == 0) = lv) := Hd.mk (by rw [hp.1]; cases lv <;> rfl)
        have HK1 : Hd (wk.cell? ⟨g1, 9, none⟩ = some (.int .i64 i0)) := Hd.mk (by rw [← hxi2]; exact ca 9 _ rfl)
        have HK2 : Hd (wk.cell? ⟨g1, 18, none⟩ = some (.int .i64 er)) := Hd.mk (by
          have h1 := ca 18 _ rfl
          rw [hxt2] at h1
          rw [← her]; exact h1)
        have HK3 : Hd (wk.cell? ⟨g2, 9, none⟩ = some (.int .i64 i0)) := Hd.mk (by rw [← hxi3]; exact cb 9 _ rfl)
        have htl : x3.t.is = lv ∧ (lv = true → x3.t.told = e) := by
          have h1 : x3.t.told = (lookR (insR (evictS s e.q) e now).1 e.q now).2.1 := by rw [hxt3]; rfl
          have h2 : x3.t.is = (lookR (insR (evictS s e.q) e now).1 e.q now).2.2 := by rw [hxt3]; rfl
          rw [hp.2] at h1 h2
          cases lv with
          | false => exact ⟨h2, fun h => by cases h⟩
          | true => exact ⟨h2, fun _ => h1⟩
        have HK4 : Hd (wk.cell? ⟨g2, 17, none⟩ = some (.bool lv)) := Hd.mk (by rw [← htl.1]; exact cb 17 _ rfl)
        have HK5 : Hd (lv = true → wk.cell? ⟨g2, 10, none⟩ = some (.string e.q.name) ∧ wk.cell? ⟨g2, 11, none⟩ = some (.int .u16 e.q.ty) ∧ wk.cell? ⟨g2, 12, none⟩ = some (.int .u16 e.q.cl) ∧ wk.cell? ⟨g2, 13, none⟩ = some (.slice e.ra e.rn e.rc) ∧ wk.cell? ⟨g2, 14, none⟩ = some (.int .i64 e.rcode) ∧ wk.cell? ⟨g2, 15, none⟩ = some (.int .i64 e.rank) ∧ wk.cell? ⟨g2, 16, none⟩ = some (.int .u64 e.expire)) := Hd.mk (fun h => by
          have h1 := htl.2 h
          rw [← h1]
          exact ⟨cb 10 _ rfl, cb 11 _ rfl, cb 12 _ rfl, cb 13 _ rfl, cb 14 _ rfl, cb 15 _ rfl, cb 16 _ rfl⟩)
        have HED := Hd.mk HE.out.drew
        have HLV2 : Hd (decide (now < e.expire) = lv) := Hd.mk HLV.out
        clear ht ht3 htt hf hl3 hown ho3 hne3 hsa hoa ca cb hxi2 hxt2 hxi3 hxt3 her hp htl hc'
        go_wp2_with fail
        refine wp_region_gs { R := Fr [], R1 := Fr [], gs := [Is (.slice (some ⟨g1, 0, none⟩) 1 c1), Is (.int .i64 1), Is (.bool false), Is (.bool false), Is (.slice (some ⟨g2, 0, none⟩) 1 c2), Is (.int .i64 1), Is (.bool false), Is (.bool false), Is (.bool false), Is (.slice (some ⟨g1, 0, none⟩) 1 c1), Is (.pointer (some ⟨g1, 0, none⟩)), Is (.pointer (some ⟨g1, 9, none⟩)), Is (.int .i64 i0), Is (.slice (some ⟨g2, 0, none⟩) 1 c2), Is (.pointer (some ⟨g2, 0, none⟩)), Is (.pointer (some ⟨g2, 9, none⟩)), Is (.int .i64 i0), Is (.bool false), Is (.bool false)], ds := [some 57, some 58, some 59, some 60, some 61, some 62, some 63, some 64, some 65, some 66, some 67, some 68, some 69, some 70, some 71, some 72, some 73, some 74, some 75], fl := [false, false, false, false, false, false, false, false, false, false, false, false, false, false, false, false, false, false, false], hs := [], hd := [] } [false, false, false, false, false, false, false, false, false, false, false, false, false, false, false, false, false, false, false, false, false, false, false, false, false, false, false, false, false, false, false, false, false, false, false, false, false, false, false, false, false, false, false, false, false, false, false, false, false, false, false, false, false, false, false, false, false, true, true, true, true, true, true, true, true, true, true, true, true, true, true, true, true, true, true, true, false, false, false, false, false, false, false, false, false, false, false, false, false, false, false, false, false, false, false, false, false, false, false, false, false, false, false, false, false, false, false, false, false, false] (by kernel_rfl) _ (by kernel_rfl) (by kernel_rfl) (by kernel_rfl) (by kernel_rfl) rfl [] (fun _ _ _ h1 h2 => h1.trans h2) (fun _ _ h => h) (staI (staI (staI (staI (staI (staI (staI (staI (staI (staI (staI (staI (staI (staI (staI (staI (staI (staI (staI sta0))))))))))))))))))) sth0 (fun _ _ h => h.size) _ (Fr.refl _ _) trivial ?_ ?_
        · refine ⟨?_, ?_, ?_, ?_, ?_, ?_, ?_, ?_, ?_, ?_, ?_, ?_, ?_, ?_, ?_, ?_, ?_, ?_, ?_, trivial⟩
          · intro σ w' hR hd
            simp only [fill, Nat.reduceAdd, if_true, Bool.false_eq_true, if_false]
            clear hd
            go_wp2
            exact ⟨Fr.refl _ _, rfl⟩
          · intro σ w' hR hd
            simp only [fill, Nat.reduceAdd, if_true, Bool.false_eq_true, if_false]
            obtain h57 : σ 57 = _ := hd 0 (by decide)
            rw [h57]
            clear h57
            clear hd
            go_wp2
            exact ⟨Fr.refl _ _, rfl⟩
          · intro σ w' hR hd
            simp only [fill, Nat.reduceAdd, if_true, Bool.false_eq_true, if_false]
            obtain h58 : σ 58 = _ := hd 1 (by decide)
            rw [h58]
            clear h58
            clear hd
            go_wp2
            exact ⟨Fr.refl _ _, rfl⟩
          · intro σ w' hR hd
            simp only [fill, Nat.reduceAdd, if_true, Bool.false_eq_true, if_false]
            obtain h59 : σ 59 = _ := hd 2 (by decide)
            rw [h59]
            clear h59
            clear hd
            go_wp2
            exact ⟨Fr.refl _ _, rfl⟩
          · intro σ w' hR hd
            simp only [fill, Nat.reduceAdd, if_true, Bool.false_eq_true, if_false]
            obtain h60 : σ 60 = _ := hd 3 (by decide)
            rw [h60]
            clear h60
            clear hd
            go_wp2
            exact ⟨Fr.refl _ _, rfl⟩
          · intro σ w' hR hd
            simp only [fill, Nat.reduceAdd, if_true, Bool.false_eq_true, if_false]
            obtain h60 : σ 60 = _ := hd 3 (by decide)
            obtain h61 : σ 61 = _ := hd 4 (by decide)
            rw [h60, h61]
            clear h60 h61
            clear hd
            go_wp2
            exact ⟨Fr.refl _ _, rfl⟩
          · intro σ w' hR hd
            simp only [fill, Nat.reduceAdd, if_true, Bool.false_eq_true, if_false]
            obtain h60 : σ 60 = _ := hd 3 (by decide)
            obtain h62 : σ 62 = _ := hd 5 (by decide)
            rw [h60, h62]
            clear h60 h62
            clear hd
            go_wp2
            exact ⟨Fr.refl _ _, rfl⟩
          · intro σ w' hR hd
            simp only [fill, Nat.reduceAdd, if_true, Bool.false_eq_true, if_false]
            obtain h60 : σ 60 = _ := hd 3 (by decide)
            obtain h63 : σ 63 = _ := hd 6 (by decide)
            rw [h60, h63]
            clear h60 h63
            clear hd
            go_wp2
            exact ⟨Fr.refl _ _, rfl⟩
          · intro σ w' hR hd
            simp only [fill, Nat.reduceAdd, if_true, Bool.false_eq_true, if_false]
            obtain h64 : σ 64 = _ := hd 7 (by decide)
            rw [h64]
            clear h64
            clear hd
            go_wp2
            exact ⟨Fr.refl _ _, rfl⟩
          · intro σ w' hR hd
            simp only [fill, Nat.reduceAdd, if_true, Bool.false_eq_true, if_false]
            obtain h65 : σ 65 = _ := hd 8 (by decide)
            rw [h65]
            clear h65
            clear hd
            go_wp2
            exact ⟨Fr.refl _ _, rfl⟩
          · intro σ w' hR hd
            simp only [fill, Nat.reduceAdd, if_true, Bool.false_eq_true, if_false]
            obtain h65 : σ 65 = _ := hd 8 (by decide)
            obtain h66 : σ 66 = _ := hd 9 (by decide)
            rw [h65, h66]
            clear h65 h66
            clear hd
            go_wp2
            exact ⟨Fr.refl _ _, rfl⟩
          · intro σ w' hR hd
            simp only [fill, Nat.reduceAdd, if_true, Bool.false_eq_true, if_false]
            obtain h65 : σ 65 = _ := hd 8 (by decide)
            obtain h67 : σ 67 = _ := hd 10 (by decide)
            rw [h65, h67]
            clear h65 h67
            clear hd
            go_wp2
            exact ⟨Fr.refl _ _, rfl⟩
          · intro σ w' hR hd
            simp only [fill, Nat.reduceAdd, if_true, Bool.false_eq_true, if_false]
            obtain h65 : σ 65 = _ := hd 8 (by decide)
            obtain h68 : σ 68 = _ := hd 11 (by decide)
            rw [h65, h68]
            clear h65 h68
            clear hd
            have a9 : w'.cell? ⟨g1, 9, none⟩ = some (.int .i64 i0) := hR.cell HK1.out (by simp)
            go_wp2
            exact ⟨Fr.refl _ _, rfl⟩
          · intro σ w' hR hd
            simp only [fill, Nat.reduceAdd, if_true, Bool.false_eq_true, if_false]
            obtain h65 : σ 65 = _ := hd 8 (by decide)
            rw [h65]
            clear h65
            clear hd
            go_wp2
            exact ⟨Fr.refl _ _, rfl⟩
          · intro σ w' hR hd
            simp only [fill, Nat.reduceAdd, if_true, Bool.false_eq_true, if_false]
            obtain h65 : σ 65 = _ := hd 8 (by decide)
            obtain h70 : σ 70 = _ := hd 13 (by decide)
            rw [h65, h70]
            clear h65 h70
            clear hd
            go_wp2
            exact ⟨Fr.refl _ _, rfl⟩
          · intro σ w' hR hd
            simp only [fill, Nat.reduceAdd, if_true, Bool.false_eq_true, if_false]
            obtain h65 : σ 65 = _ := hd 8 (by decide)
            obtain h71 : σ 71 = _ := hd 14 (by decide)
            rw [h65, h71]
            clear h65 h71
            clear hd
            go_wp2
            exact ⟨Fr.refl _ _, rfl⟩
          · intro σ w' hR hd
            simp only [fill, Nat.reduceAdd, if_true, Bool.false_eq_true, if_false]
            obtain h65 : σ 65 = _ := hd 8 (by decide)
            obtain h72 : σ 72 = _ := hd 15 (by decide)
            rw [h65, h72]
            clear h65 h72
            clear hd
            have b9 : w'.cell? ⟨g2, 9, none⟩ = some (.int .i64 i0) := hR.cell HK3.out (by simp)
            go_wp2
            exact ⟨Fr.refl _ _, rfl⟩
          · intro σ w' hR hd
            simp only [fill, Nat.reduceAdd, if_true, Bool.false_eq_true, if_false]
            obtain h65 : σ 65 = _ := hd 8 (by decide)
            obtain h69 : σ 69 = _ := hd 12 (by decide)
            obtain h73 : σ 73 = _ := hd 16 (by decide)
            rw [h65, h69, h73]
            clear h65 h69 h73
            clear hd
            go_wp2
            exact ⟨Fr.refl _ _, rfl⟩
          · intro σ w' hR hd
            simp only [fill, Nat.reduceAdd, if_true, Bool.false_eq_true, if_false]
            obtain h65 : σ 65 = _ := hd 8 (by decide)
            obtain h74 : σ 74 = _ := hd 17 (by decide)
            rw [h65, h74]
            clear h65 h74
            clear hd
            go_wp2
            exact ⟨Fr.refl _ _, rfl⟩
        · intro σ w3 hR hG hH
          obtain h75 : σ 75 = _ := hG 18 (by decide)
          simp only [fill, Nat.reduceAdd, if_true, Bool.false_eq_true, if_false, h75]
          clear h75
          clear hG
          have hfd := (Fr.drew (Fr.refl [] wk)).trans hR
          have HK2 := Hd.mk (hfd.cell HK2.out (by simp))
          have HK4 := Hd.mk (hfd.cell HK4.out (by simp))
          have HK5 : Hd (lv = true → w3.cell? ⟨g2, 10, none⟩ = some (.string e.q.name) ∧ w3.cell? ⟨g2, 11, none⟩ = some (.int .u16 e.q.ty) ∧ w3.cell? ⟨g2, 12, none⟩ = some (.int .u16 e.q.cl) ∧ w3.cell? ⟨g2, 13, none⟩ = some (.slice e.ra e.rn e.rc) ∧ w3.cell? ⟨g2, 14, none⟩ = some (.int .i64 e.rcode) ∧ w3.cell? ⟨g2, 15, none⟩ = some (.int .i64 e.rank) ∧ w3.cell? ⟨g2, 16, none⟩ = some (.int .u64 e.expire)) := Hd.mk (fun h => by
            obtain ⟨k0, k1, k2, k3, k4, k5, k6⟩ := HK5.out h
            exact ⟨hfd.cell k0 (by simp), hfd.cell k1 (by simp), hfd.cell k2 (by simp), hfd.cell k3 (by simp), hfd.cell k4 (by simp), hfd.cell k5 (by simp), hfd.cell k6 (by simp)⟩)
          have HE := Hd.mk (HE.out.fr hfd (by simp))
          have HF := Hd.mk (HF.out.trans hfd)
          obtain ⟨wq, hwq⟩ : ∃ x, w3 = x := ⟨_, rfl⟩
          rw [hwq] at HE HF HK2 HK4 HK5 ⊢
          clear hR hH hfd hwq
          have HED := Hd.mk HE.out.drew
          have HFD : Hd (Fr [] W wq.drew) := Hd.mk HF.out.drew
          have hlv2 := HLV2.out
          obtain ⟨e0, e1, e2, e3, e4, e5, e6, ef⟩ := HE.out.cells7
          cases lv
          · go_wp2_with fail
            clear e0 e1 e2 e3 e4 e5 e6 ef
            refine wp_region_gs { R := Fr [], R1 := Fr [], gs := [Is (.bool true), Is (.bool true), Is (.slice (some ⟨g1, 0, none⟩) 1 c1), Is (.pointer (some ⟨g1, 0, none⟩)), Is (.pointer (some ⟨g1, 18, none⟩)), Is (.int .i64 er), Is (.bool false), Is (.bool false), Is (.bool true), Is (.bool true), Is (.bool true), Is (.slice (some ⟨g2, 0, none⟩) 1 c2), Is (.pointer (some ⟨g2, 0, none⟩)), Is (.pointer (some ⟨g2, 17, none⟩)), Is (.bool false), Is (.bool false), Is (.bool true), Is (.bool true), Is (.bool true), Is (.bool false), Is (.bool true), Is (.bool true), No, No, No, No, No, No, Is (.bool true), Is (.bool true), Is (.bool true)], ds := [some 80, some 81, some 82, some 83, some 84, some 85, some 86, some 87, some 88, some 89, some 90, some 91, some 92, some 93, some 94, some 95, some 96, some 97, some 98, some 99, some 100, some 101, some 102, some 103, some 104, some 105, some 106, some 107, some 108, some 109, some 8], fl := [false, false, false, false, false, false, false, false, false, false, false, false, false, false, false, false, false, false, false, false, false, false, false, false, false, false, false, false, false, false, false], hs := [], hd := [] } [false, false, false, false, false, false, false, false, true, false, false, false, false, false, false, false, false, false, false, false, false, false, false, false, false, false, false, false, false, false, false, false, false, false, false, false, false, false, false, false, false, false, false, false, false, false, false, false, false, false, false, false, false, false, false, false, false, false, false, false, false, false, false, false, false, false, false, false, false, false, false, false, false, false, false, false, false, false, false, false, true, true, true, true, true, true, true, true, true, true, true, true, true, true, true, true, true, true, true, true, true, true, true, true, true, true, true, true, true, true] (by kernel_rfl) _ (by kernel_rfl) (by kernel_rfl) (by kernel_rfl) (by kernel_rfl) rfl [] (fun _ _ _ h1 h2 => h1.trans h2) (fun _ _ h => h) (staI (staI (staI (staI (staI (staI (staI (staI (staI (staI (staI (staI (staI (staI (staI (staI (staI (staI (staI (staI (staI (staI (staN (staN (staN (staN (staN (staN (staI (staI (staI sta0))))))))))))))))))))))))))))))) sth0 (fun _ _ h => h.size) _ (Fr.refl _ _) trivial ?_ ?_
            · refine ⟨?_, ?_, ?_, ?_, ?_, ?_, ?_, ?_, ?_, ?_, ?_, ?_, ?_, ?_, ?_, ?_, ?_, ?_, ?_, ?_, ?_, ?_, ?_, ?_, ?_, ?_, ?_, ?_, ?_, ?_, ?_, trivial⟩
              · intro σ w' hR hd
                simp only [fill, Nat.reduceAdd, if_true, Bool.false_eq_true, if_false]
                clear hd
                go_wp2
                exact ⟨Fr.refl _ _, rfl⟩
              · intro σ w' hR hd
                simp only [fill, Nat.reduceAdd, if_true, Bool.false_eq_true, if_false]
                obtain h80 : σ 80 = _ := hd 0 (by decide)
                rw [h80]
                clear h80
                clear hd
                go_wp2
                exact ⟨Fr.refl _ _, rfl⟩
              · intro σ w' hR hd
                simp only [fill, Nat.reduceAdd, if_true, Bool.false_eq_true, if_false]
                obtain h81 : σ 81 = _ := hd 1 (by decide)
                rw [h81]
                clear h81
                clear hd
                go_wp2
                exact ⟨Fr.refl _ _, rfl⟩
              · intro σ w' hR hd
                simp only [fill, Nat.reduceAdd, if_true, Bool.false_eq_true, if_false]
                obtain h81 : σ 81 = _ := hd 1 (by decide)
                obtain h82 : σ 82 = _ := hd 2 (by decide)
                rw [h81, h82]
                clear h81 h82
                clear hd
                go_wp2
                exact ⟨Fr.refl _ _, rfl⟩
              · intro σ w' hR hd
                simp only [fill, Nat.reduceAdd, if_true, Bool.false_eq_true, if_false]
                obtain h81 : σ 81 = _ := hd 1 (by decide)
                obtain h83 : σ 83 = _ := hd 3 (by decide)
                rw [h81, h83]
                clear h81 h83
                clear hd
                go_wp2
                exact ⟨Fr.refl _ _, rfl⟩
              · intro σ w' hR hd
                simp only [fill, Nat.reduceAdd, if_true, Bool.false_eq_true, if_false]
                obtain h81 : σ 81 = _ := hd 1 (by decide)
                obtain h84 : σ 84 = _ := hd 4 (by decide)
                rw [h81, h84]
                clear h81 h84
                clear hd
                have a18 : w'.cell? ⟨g1, 18, none⟩ = some (.int .i64 er) := hR.cell HK2.out (by simp)
                go_wp2
                exact ⟨Fr.refl _ _, rfl⟩
              · intro σ w' hR hd
                simp only [fill, Nat.reduceAdd, if_true, Bool.false_eq_true, if_false]
                obtain h81 : σ 81 = _ := hd 1 (by decide)
                obtain h85 : σ 85 = _ := hd 5 (by decide)
                rw [h81, h85]
                clear h81 h85
                clear hd
                have her := HER.out
                go_wp2
                exact ⟨Fr.refl _ _, rfl⟩
              · intro σ w' hR hd
                simp only [fill, Nat.reduceAdd, if_true, Bool.false_eq_true, if_false]
                obtain h81 : σ 81 = _ := hd 1 (by decide)
                rw [h81]
                clear h81
                clear hd
                go_wp2
                exact ⟨Fr.refl _ _, rfl⟩
              · intro σ w' hR hd
                simp only [fill, Nat.reduceAdd, if_true, Bool.false_eq_true, if_false]
                obtain h81 : σ 81 = _ := hd 1 (by decide)
                obtain h86 : σ 86 = _ := hd 6 (by decide)
                obtain h87 : σ 87 = _ := hd 7 (by decide)
                rw [h81, h86, h87]
                clear h81 h86 h87
                clear hd
                go_wp2
                exact ⟨Fr.refl _ _, rfl⟩
              · intro σ w' hR hd
                simp only [fill, Nat.reduceAdd, if_true, Bool.false_eq_true, if_false]
                obtain h81 : σ 81 = _ := hd 1 (by decide)
                obtain h88 : σ 88 = _ := hd 8 (by decide)
                rw [h81, h88]
                clear h81 h88
                clear hd
                go_wp2
                exact ⟨Fr.refl _ _, rfl⟩
              · intro σ w' hR hd
                simp only [fill, Nat.reduceAdd, if_true, Bool.false_eq_true, if_false]
                obtain h89 : σ 89 = _ := hd 9 (by decide)
                rw [h89]
                clear h89
                clear hd
                go_wp2
                exact ⟨Fr.refl _ _, rfl⟩
              · intro σ w' hR hd
                simp only [fill, Nat.reduceAdd, if_true, Bool.false_eq_true, if_false]
                obtain h90 : σ 90 = _ := hd 10 (by decide)
                rw [h90]
                clear h90
                clear hd
                go_wp2
                exact ⟨Fr.refl _ _, rfl⟩
              · intro σ w' hR hd
                simp only [fill, Nat.reduceAdd, if_true, Bool.false_eq_true, if_false]
                obtain h90 : σ 90 = _ := hd 10 (by decide)
                obtain h91 : σ 91 = _ := hd 11 (by decide)
                rw [h90, h91]
                clear h90 h91
                clear hd
                go_wp2
                exact ⟨Fr.refl _ _, rfl⟩
              · intro σ w' hR hd
                simp only [fill, Nat.reduceAdd, if_true, Bool.false_eq_true, if_false]
                obtain h90 : σ 90 = _ := hd 10 (by decide)
                obtain h92 : σ 92 = _ := hd 12 (by decide)
                rw [h90, h92]
                clear h90 h92
                clear hd
                go_wp2
                exact ⟨Fr.refl _ _, rfl⟩
              · intro σ w' hR hd
                simp only [fill, Nat.reduceAdd, if_true, Bool.false_eq_true, if_false]
                obtain h90 : σ 90 = _ := hd 10 (by decide)
                obtain h93 : σ 93 = _ := hd 13 (by decide)
                rw [h90, h93]
                clear h90 h93
                clear hd
                have a17 : w'.cell? ⟨g2, 17, none⟩ = some (.bool false) := hR.cell HK4.out (by simp)
                go_wp2
                exact ⟨Fr.refl _ _, rfl⟩
              · intro σ w' hR hd
                simp only [fill, Nat.reduceAdd, if_true, Bool.false_eq_true, if_false]
                obtain h90 : σ 90 = _ := hd 10 (by decide)
                rw [h90]
                clear h90
                clear hd
                go_wp2
                exact ⟨Fr.refl _ _, rfl⟩
              · intro σ w' hR hd
                simp only [fill, Nat.reduceAdd, if_true, Bool.false_eq_true, if_false]
                obtain h90 : σ 90 = _ := hd 10 (by decide)
                obtain h94 : σ 94 = _ := hd 14 (by decide)
                obtain h95 : σ 95 = _ := hd 15 (by decide)
                rw [h90, h94, h95]
                clear h90 h94 h95
                clear hd
                go_wp2
                exact ⟨Fr.refl _ _, rfl⟩
              · intro σ w' hR hd
                simp only [fill, Nat.reduceAdd, if_true, Bool.false_eq_true, if_false]
                obtain h90 : σ 90 = _ := hd 10 (by decide)
                obtain h96 : σ 96 = _ := hd 16 (by decide)
                rw [h90, h96]
                clear h90 h96
                clear hd
                go_wp2
                exact ⟨Fr.refl _ _, rfl⟩
              · intro σ w' hR hd
                simp only [fill, Nat.reduceAdd, if_true, Bool.false_eq_true, if_false]
                obtain h97 : σ 97 = _ := hd 17 (by decide)
                rw [h97]
                clear h97
                clear hd
                go_wp2
                exact ⟨Fr.refl _ _, rfl⟩
              · intro σ w' hR hd
                simp only [fill, Nat.reduceAdd, if_true, Bool.false_eq_true, if_false]
                obtain h98 : σ 98 = _ := hd 18 (by decide)
                rw [h98]
                clear h98
                clear hd
                go_wp2
                exact ⟨Fr.refl _ _, rfl⟩
              · intro σ w' hR hd
                simp only [fill, Nat.reduceAdd, if_true, Bool.false_eq_true, if_false]
                obtain h98 : σ 98 = _ := hd 18 (by decide)
                obtain h99 : σ 99 = _ := hd 19 (by decide)
                rw [h98, h99]
                clear h98 h99
                clear hd
                go_wp2
                exact ⟨Fr.refl _ _, rfl⟩
              · intro σ w' hR hd
                simp only [fill, Nat.reduceAdd, if_true, Bool.false_eq_true, if_false]
                obtain h98 : σ 98 = _ := hd 18 (by decide)
                obtain h100 : σ 100 = _ := hd 20 (by decide)
                rw [h98, h100]
                clear h98 h100
                clear hd
                go_wp2
                exact ⟨Fr.refl _ _, rfl⟩
              · intro σ w' hR hd
                simp only [fill, Nat.reduceAdd, if_true, Bool.false_eq_true, if_false]
                obtain h101 : σ 101 = _ := hd 21 (by decide)
                rw [h101]
                clear h101
                clear hd
                go_wp2
                exact ⟨Fr.refl _ _, trivial⟩
              · intro σ w' hR hd
                simp only [fill, Nat.reduceAdd, if_true, Bool.false_eq_true, if_false]
                obtain h101 : σ 101 = _ := hd 21 (by decide)
                rw [h101]
                clear h101
                clear hd
                go_wp2
                exact ⟨Fr.refl _ _, trivial⟩
              · intro σ w' hR hd
                simp only [fill, Nat.reduceAdd, if_true, Bool.false_eq_true, if_false]
                obtain h101 : σ 101 = _ := hd 21 (by decide)
                rw [h101]
                clear h101
                clear hd
                go_wp2
                exact ⟨Fr.refl _ _, trivial⟩
              · intro σ w' hR hd
                simp only [fill, Nat.reduceAdd, if_true, Bool.false_eq_true, if_false]
                obtain h101 : σ 101 = _ := hd 21 (by decide)
                rw [h101]
                clear h101
                clear hd
                go_wp2
                exact ⟨Fr.refl _ _, trivial⟩
              · intro σ w' hR hd
                simp only [fill, Nat.reduceAdd, if_true, Bool.false_eq_true, if_false]
                obtain h101 : σ 101 = _ := hd 21 (by decide)
                rw [h101]
                clear h101
                clear hd
                go_wp2
                exact ⟨Fr.refl _ _, trivial⟩
              · intro σ w' hR hd
                simp only [fill, Nat.reduceAdd, if_true, Bool.false_eq_true, if_false]
                obtain h101 : σ 101 = _ := hd 21 (by decide)
                rw [h101]
                clear h101
                clear hd
                go_wp2
                exact ⟨Fr.refl _ _, trivial⟩
              · intro σ w' hR hd
                simp only [fill, Nat.reduceAdd, if_true, Bool.false_eq_true, if_false]
                obtain h98 : σ 98 = _ := hd 18 (by decide)
                obtain h101 : σ 101 = _ := hd 21 (by decide)
                rw [h98, h101]
                clear h98 h101
                clear hd
                go_wp2
                exact ⟨Fr.refl _ _, rfl⟩
              · intro σ w' hR hd
                simp only [fill, Nat.reduceAdd, if_true, Bool.false_eq_true, if_false]
                obtain h98 : σ 98 = _ := hd 18 (by decide)
                obtain h108 : σ 108 = _ := hd 28 (by decide)
                rw [h98, h108]
                clear h98 h108
                clear hd
                go_wp2
                exact ⟨Fr.refl _ _, rfl⟩
              · intro σ w' hR hd
                simp only [fill, Nat.reduceAdd, if_true, Bool.false_eq_true, if_false]
                obtain h109 : σ 109 = _ := hd 29 (by decide)
                rw [h109]
                clear h109
                clear hd
                go_wp2
                exact ⟨Fr.refl _ _, rfl⟩
            · intro σ w3 hR hG hH
              obtain h8 : σ 8 = _ := hG 30 (by decide)
              simp only [fill, Nat.reduceAdd, if_true, Bool.false_eq_true, if_false, h8]
              clear h8
              clear hG
              have HFZ := Hd.mk (HFD.out.trans hR)
              clear hR hH
              go_wp2
              go_ret
              exact ⟨rfl, HFZ.out⟩
          · go_wp2_with fail
            clear e0 e1 e2 e3 e4 e5 e6 ef
            have HK5 := Hd.mk (HK5.out (by simp))
            refine wp_region_gs { R := Fr [], R1 := Fr [], gs := [Is (.bool true), Is (.bool true), Is (.slice (some ⟨g1, 0, none⟩) 1 c1), Is (.pointer (some ⟨g1, 0, none⟩)), Is (.pointer (some ⟨g1, 18, none⟩)), Is (.int .i64 er), Is (.bool true), Is (.bool true), Is (.bool true), Is (.bool true), Is (.bool true), Is (.slice (some ⟨g2, 0, none⟩) 1 c2), Is (.pointer (some ⟨g2, 0, none⟩)), Is (.pointer (some ⟨g2, 17, none⟩)), Is (.bool true), Is (.bool true), Is (.bool true), Is (.bool true), Is (.bool true), Is (.bool true), Is (.bool false), Is (.bool false), Is (.slice (some ⟨g2, 0, none⟩) 1 c2), Is (.pointer (some ⟨g2, 0, none⟩)), Is (.pointer (some ⟨g2, 10, none⟩)), Is (.agg #[.string e.q.name, .int .u16 e.q.ty, .int .u16 e.q.cl, .slice e.ra e.rn e.rc, .int .i64 e.rcode, .int .i64 e.rank, .int .u64 e.expire]), Is (.agg #[.string e.q.name, .int .u16 e.q.ty, .int .u16 e.q.cl, .slice e.ra e.rn e.rc, .int .i64 e.rcode, .int .i64 e.rank, .int .u64 e.expire]), Is (.bool true), Is (.bool true), Is (.bool true), Is (.bool true)], ds := [some 80, some 81, some 82, some 83, some 84, some 85, some 86, some 87, some 88, some 89, some 90, some 91, some 92, some 93, some 94, some 95, some 96, some 97, some 98, some 99, some 100, some 101, some 102, some 103, some 104, some 105, some 106, some 107, some 108, some 109, some 8], fl := [false, false, false, false, false, false, false, false, false, false, false, false, false, false, false, false, false, false, false, false, false, false, false, false, false, false, false, false, false, false, false], hs := [], hd := [] } [false, false, false, false, false, false, false, false, true, false, false, false, false, false, false, false, false, false, false, false, false, false, false, false, false, false, false, false, false, false, false, false, false, false, false, false, false, false, false, false, false, false, false, false, false, false, false, false, false, false, false, false, false, false, false, false, false, false, false, false, false, false, false, false, false, false, false, false, false, false, false, false, false, false, false, false, false, false, false, false, true, true, true, true, true, true, true, true, true, true, true, true, true, true, true, true, true, true, true, true, true, true, true, true, true, true, true, true, true, true] (by kernel_rfl) _ (by kernel_rfl) (by kernel_rfl) (by kernel_rfl) (by kernel_rfl) rfl [] (fun _ _ _ h1 h2 => h1.trans h2) (fun _ _ h => h) (staI (staI (staI (staI (staI (staI (staI (staI (staI (staI (staI (staI (staI (staI (staI (staI (staI (staI (staI (staI (staI (staI (staI (staI (staI (staI (staI (staI (staI (staI (staI sta0))))))))))))))))))))))))))))))) sth0 (fun _ _ h => h.size) _ (Fr.refl _ _) trivial ?_ ?_
            · refine ⟨?_, ?_, ?_, ?_, ?_, ?_, ?_, ?_, ?_, ?_, ?_, ?_, ?_, ?_, ?_, ?_, ?_, ?_, ?_, ?_, ?_, ?_, ?_, ?_, ?_, ?_, ?_, ?_, ?_, ?_, ?_, trivial⟩
              · intro σ w' hR hd
                simp only [fill, Nat.reduceAdd, if_true, Bool.false_eq_true, if_false]
                clear hd
                go_wp2
                exact ⟨Fr.refl _ _, rfl⟩
              · intro σ w' hR hd
                simp only [fill, Nat.reduceAdd, if_true, Bool.false_eq_true, if_false]
                obtain h80 : σ 80 = _ := hd 0 (by decide)
                rw [h80]
                clear h80
                clear hd
                go_wp2
                exact ⟨Fr.refl _ _, rfl⟩
              · intro σ w' hR hd
                simp only [fill, Nat.reduceAdd, if_true, Bool.false_eq_true, if_false]
                obtain h81 : σ 81 = _ := hd 1 (by decide)
                rw [h81]
                clear h81
                clear hd
                go_wp2
                exact ⟨Fr.refl _ _, rfl⟩
              · intro σ w' hR hd
                simp only [fill, Nat.reduceAdd, if_true, Bool.false_eq_true, if_false]
                obtain h81 : σ 81 = _ := hd 1 (by decide)
                obtain h82 : σ 82 = _ := hd 2 (by decide)
                rw [h81, h82]
                clear h81 h82
                clear hd
                go_wp2
                exact ⟨Fr.refl _ _, rfl⟩
              · intro σ w' hR hd
                simp only [fill, Nat.reduceAdd, if_true, Bool.false_eq_true, if_false]
                obtain h81 : σ 81 = _ := hd 1 (by decide)
                obtain h83 : σ 83 = _ := hd 3 (by decide)
                rw [h81, h83]
                clear h81 h83
                clear hd
                go_wp2
                exact ⟨Fr.refl _ _, rfl⟩
              · intro σ w' hR hd
                simp only [fill, Nat.reduceAdd, if_true, Bool.false_eq_true, if_false]
                obtain h81 : σ 81 = _ := hd 1 (by decide)
                obtain h84 : σ 84 = _ := hd 4 (by decide)
                rw [h81, h84]
                clear h81 h84
                clear hd
                have a18 : w'.cell? ⟨g1, 18, none⟩ = some (.int .i64 er) := hR.cell HK2.out (by simp)
                go_wp2
                exact ⟨Fr.refl _ _, rfl⟩
              · intro σ w' hR hd
                simp only [fill, Nat.reduceAdd, if_true, Bool.false_eq_true, if_false]
                obtain h81 : σ 81 = _ := hd 1 (by decide)
                obtain h85 : σ 85 = _ := hd 5 (by decide)
                rw [h81, h85]
                clear h81 h85
                clear hd
                have her := HER.out
                go_wp2
                exact ⟨Fr.refl _ _, rfl⟩
              · intro σ w' hR hd
                simp only [fill, Nat.reduceAdd, if_true, Bool.false_eq_true, if_false]
                obtain h81 : σ 81 = _ := hd 1 (by decide)
                rw [h81]
                clear h81
                clear hd
                go_wp2
                exact ⟨Fr.refl _ _, rfl⟩
              · intro σ w' hR hd
                simp only [fill, Nat.reduceAdd, if_true, Bool.false_eq_true, if_false]
                obtain h81 : σ 81 = _ := hd 1 (by decide)
                obtain h86 : σ 86 = _ := hd 6 (by decide)
                obtain h87 : σ 87 = _ := hd 7 (by decide)
                rw [h81, h86, h87]
                clear h81 h86 h87
                clear hd
                go_wp2
                exact ⟨Fr.refl _ _, rfl⟩
              · intro σ w' hR hd
                simp only [fill, Nat.reduceAdd, if_true, Bool.false_eq_true, if_false]
                obtain h81 : σ 81 = _ := hd 1 (by decide)
                obtain h88 : σ 88 = _ := hd 8 (by decide)
                rw [h81, h88]
                clear h81 h88
                clear hd
                go_wp2
                exact ⟨Fr.refl _ _, rfl⟩
              · intro σ w' hR hd
                simp only [fill, Nat.reduceAdd, if_true, Bool.false_eq_true, if_false]
                obtain h89 : σ 89 = _ := hd 9 (by decide)
                rw [h89]
                clear h89
                clear hd
                go_wp2
                exact ⟨Fr.refl _ _, rfl⟩
              · intro σ w' hR hd
                simp only [fill, Nat.reduceAdd, if_true, Bool.false_eq_true, if_false]
                obtain h90 : σ 90 = _ := hd 10 (by decide)
                rw [h90]
                clear h90
                clear hd
                go_wp2
                exact ⟨Fr.refl _ _, rfl⟩
              · intro σ w' hR hd
                simp only [fill, Nat.reduceAdd, if_true, Bool.false_eq_true, if_false]
                obtain h90 : σ 90 = _ := hd 10 (by decide)
                obtain h91 : σ 91 = _ := hd 11 (by decide)
                rw [h90, h91]
                clear h90 h91
                clear hd
                go_wp2
                exact ⟨Fr.refl _ _, rfl⟩
              · intro σ w' hR hd
                simp only [fill, Nat.reduceAdd, if_true, Bool.false_eq_true, if_false]
                obtain h90 : σ 90 = _ := hd 10 (by decide)
                obtain h92 : σ 92 = _ := hd 12 (by decide)
                rw [h90, h92]
                clear h90 h92
                clear hd
                go_wp2
                exact ⟨Fr.refl _ _, rfl⟩
              · intro σ w' hR hd
                simp only [fill, Nat.reduceAdd, if_true, Bool.false_eq_true, if_false]
                obtain h90 : σ 90 = _ := hd 10 (by decide)
                obtain h93 : σ 93 = _ := hd 13 (by decide)
                rw [h90, h93]
                clear h90 h93
                clear hd
                have a17 : w'.cell? ⟨g2, 17, none⟩ = some (.bool true) := hR.cell HK4.out (by simp)
                go_wp2
                exact ⟨Fr.refl _ _, rfl⟩
              · intro σ w' hR hd
                simp only [fill, Nat.reduceAdd, if_true, Bool.false_eq_true, if_false]
                obtain h90 : σ 90 = _ := hd 10 (by decide)
                rw [h90]
                clear h90
                clear hd
                go_wp2
                exact ⟨Fr.refl _ _, rfl⟩
              · intro σ w' hR hd
                simp only [fill, Nat.reduceAdd, if_true, Bool.false_eq_true, if_false]
                obtain h90 : σ 90 = _ := hd 10 (by decide)
                obtain h94 : σ 94 = _ := hd 14 (by decide)
                obtain h95 : σ 95 = _ := hd 15 (by decide)
                rw [h90, h94, h95]
                clear h90 h94 h95
                clear hd
                go_wp2
                exact ⟨Fr.refl _ _, rfl⟩
              · intro σ w' hR hd
                simp only [fill, Nat.reduceAdd, if_true, Bool.false_eq_true, if_false]
                obtain h90 : σ 90 = _ := hd 10 (by decide)
                obtain h96 : σ 96 = _ := hd 16 (by decide)
                rw [h90, h96]
                clear h90 h96
                clear hd
                go_wp2
                exact ⟨Fr.refl _ _, rfl⟩
              · intro σ w' hR hd
                simp only [fill, Nat.reduceAdd, if_true, Bool.false_eq_true, if_false]
                obtain h97 : σ 97 = _ := hd 17 (by decide)
                rw [h97]
                clear h97
                clear hd
                go_wp2
                exact ⟨Fr.refl _ _, rfl⟩
              · intro σ w' hR hd
                simp only [fill, Nat.reduceAdd, if_true, Bool.false_eq_true, if_false]
                obtain h98 : σ 98 = _ := hd 18 (by decide)
                rw [h98]
                clear h98
                clear hd
                go_wp2
                exact ⟨Fr.refl _ _, rfl⟩
              · intro σ w' hR hd
                simp only [fill, Nat.reduceAdd, if_true, Bool.false_eq_true, if_false]
                obtain h98 : σ 98 = _ := hd 18 (by decide)
                obtain h99 : σ 99 = _ := hd 19 (by decide)
                rw [h98, h99]
                clear h98 h99
                clear hd
                go_wp2
                exact ⟨Fr.refl _ _, rfl⟩
              · intro σ w' hR hd
                simp only [fill, Nat.reduceAdd, if_true, Bool.false_eq_true, if_false]
                obtain h98 : σ 98 = _ := hd 18 (by decide)
                obtain h100 : σ 100 = _ := hd 20 (by decide)
                rw [h98, h100]
                clear h98 h100
                clear hd
                go_wp2
                exact ⟨Fr.refl _ _, rfl⟩
              · intro σ w' hR hd
                simp only [fill, Nat.reduceAdd, if_true, Bool.false_eq_true, if_false]
                obtain h101 : σ 101 = _ := hd 21 (by decide)
                rw [h101]
                clear h101
                clear hd
                go_wp2
                exact ⟨Fr.refl _ _, rfl⟩
              · intro σ w' hR hd
                simp only [fill, Nat.reduceAdd, if_true, Bool.false_eq_true, if_false]
                obtain h101 : σ 101 = _ := hd 21 (by decide)
                obtain h102 : σ 102 = _ := hd 22 (by decide)
                rw [h101, h102]
                clear h101 h102
                clear hd
                go_wp2
                exact ⟨Fr.refl _ _, rfl⟩
              · intro σ w' hR hd
                simp only [fill, Nat.reduceAdd, if_true, Bool.false_eq_true, if_false]
                obtain h101 : σ 101 = _ := hd 21 (by decide)
                obtain h103 : σ 103 = _ := hd 23 (by decide)
                rw [h101, h103]
                clear h101 h103
                clear hd
                go_wp2
                exact ⟨Fr.refl _ _, rfl⟩
              · intro σ w' hR hd
                simp only [fill, Nat.reduceAdd, if_true, Bool.false_eq_true, if_false]
                obtain h101 : σ 101 = _ := hd 21 (by decide)
                obtain h104 : σ 104 = _ := hd 24 (by decide)
                rw [h101, h104]
                clear h101 h104
                clear hd
                have b0 : w'.cell? ⟨g2, 10, none⟩ = some (.string e.q.name) := hR.cell HK5.out.1 (by simp)
                have b1 : w'.cell? ⟨g2, 11, none⟩ = some (.int .u16 e.q.ty) := hR.cell HK5.out.2.1 (by simp)
                have b2 : w'.cell? ⟨g2, 12, none⟩ = some (.int .u16 e.q.cl) := hR.cell HK5.out.2.2.1 (by simp)
                have b3 : w'.cell? ⟨g2, 13, none⟩ = some (.slice e.ra e.rn e.rc) := hR.cell HK5.out.2.2.2.1 (by simp)
                have b4 : w'.cell? ⟨g2, 14, none⟩ = some (.int .i64 e.rcode) := hR.cell HK5.out.2.2.2.2.1 (by simp)
                have b5 : w'.cell? ⟨g2, 15, none⟩ = some (.int .i64 e.rank) := hR.cell HK5.out.2.2.2.2.2.1 (by simp)
                have b6 : w'.cell? ⟨g2, 16, none⟩ = some (.int .u64 e.expire) := hR.cell HK5.out.2.2.2.2.2.2 (by simp)
                go_wp2
                exact ⟨Fr.refl _ _, rfl⟩
              · intro σ w' hR hd
                simp only [fill, Nat.reduceAdd, if_true, Bool.false_eq_true, if_false]
                obtain h101 : σ 101 = _ := hd 21 (by decide)
                rw [h101]
                clear h101
                clear hd
                have e0 : w'.cell? ⟨be, 0, none⟩ = some (.string e.q.name) := (HED.out.fr hR (by simp)).cell (i := 0) rfl
                have e1 : w'.cell? ⟨be, 1, none⟩ = some (.int .u16 e.q.ty) := (HED.out.fr hR (by simp)).cell (i := 1) rfl
                have e2 : w'.cell? ⟨be, 2, none⟩ = some (.int .u16 e.q.cl) := (HED.out.fr hR (by simp)).cell (i := 2) rfl
                have e3 : w'.cell? ⟨be, 3, none⟩ = some (.slice e.ra e.rn e.rc) := (HED.out.fr hR (by simp)).cell (i := 3) rfl
                have e4 : w'.cell? ⟨be, 4, none⟩ = some (.int .i64 e.rcode) := (HED.out.fr hR (by simp)).cell (i := 4) rfl
                have e5 : w'.cell? ⟨be, 5, none⟩ = some (.int .i64 e.rank) := (HED.out.fr hR (by simp)).cell (i := 5) rfl
                have e6 : w'.cell? ⟨be, 6, none⟩ = some (.int .u64 e.expire) := (HED.out.fr hR (by simp)).cell (i := 6) rfl
                go_wp2
                exact ⟨Fr.refl _ _, rfl⟩
              · intro σ w' hR hd
                simp only [fill, Nat.reduceAdd, if_true, Bool.false_eq_true, if_false]
                obtain h101 : σ 101 = _ := hd 21 (by decide)
                obtain h105 : σ 105 = _ := hd 25 (by decide)
                obtain h106 : σ 106 = _ := hd 26 (by decide)
                rw [h101, h105, h106]
                clear h101 h105 h106
                clear hd
                go_wp2_with fail
                refine (same_calls (HRE.out.fr (HFD.out.trans hR))).mono ?_
                rintro r w4 ⟨rfl, hf4⟩
                have HF4 := Hd.mk hf4
                clear hf4
                go_wp2
                exact ⟨HF4.out, rfl⟩
              · intro σ w' hR hd
                simp only [fill, Nat.reduceAdd, if_true, Bool.false_eq_true, if_false]
                obtain h98 : σ 98 = _ := hd 18 (by decide)
                obtain h101 : σ 101 = _ := hd 21 (by decide)
                obtain h107 : σ 107 = _ := hd 27 (by decide)
                rw [h98, h101, h107]
                clear h98 h101 h107
                clear hd
                go_wp2
                exact ⟨Fr.refl _ _, rfl⟩
              · intro σ w' hR hd
                simp only [fill, Nat.reduceAdd, if_true, Bool.false_eq_true, if_false]
                obtain h98 : σ 98 = _ := hd 18 (by decide)
                obtain h108 : σ 108 = _ := hd 28 (by decide)
                rw [h98, h108]
                clear h98 h108
                clear hd
                go_wp2
                exact ⟨Fr.refl _ _, rfl⟩
              · intro σ w' hR hd
                simp only [fill, Nat.reduceAdd, if_true, Bool.false_eq_true, if_false]
                obtain h109 : σ 109 = _ := hd 29 (by decide)
                rw [h109]
                clear h109
                clear hd
                go_wp2
                exact ⟨Fr.refl _ _, rfl⟩
            · intro σ w3 hR hG hH
              obtain h8 : σ 8 = _ := hG 30 (by decide)
              simp only [fill, Nat.reduceAdd, if_true, Bool.false_eq_true, if_false, h8]
              clear h8
              clear hG
              have HFZ := Hd.mk (HFD.out.trans hR)
              clear hR hH
              go_wp2
              go_ret
              exact ⟨rfl, HFZ.out⟩
end Go.Proofs.Ytogjfcmclfehkaa
