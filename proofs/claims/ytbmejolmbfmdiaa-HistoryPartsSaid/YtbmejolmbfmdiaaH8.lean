import Derived.Test.YtbmejolmbfmdiaaH7
namespace Go.Proofs.Ytbmejolmbfmdiaa
open Go Go.RowKit Go.Lib Go.Proofs.MapL

def lookOkB (ρ : En → List Rr) (s : Ps) (x : Ev) : Bool := sameB ρ (lookE s.L x.de.q x.now) x.told && (lookB s.L x.de.q x.now == x.is) && decide (x.err = 0) && decide (x.G.length = 0)
theorem lookE_ok {w : World} {L : List En} (h : ∀ e ∈ L, RecOK w e) (q : Qn) (now : Int) : RecOK w (lookE L q now) := by
  unfold lookE
  cases hf : findE L q with
  | none => exact zeroE_ok w
  | some e =>
    dsimp only
    split
    · exact h e (List.mem_of_find?_eq_some hf)
    · exact zeroE_ok w
set_option maxRecDepth 100000 in
set_option maxHeartbeats 8000000 in
theorem hlook_calls {w0 w : World} (h0 : Fr [] w0 w) {P : Pt} {s : Ps} (h : PtAt w P s) (hL : ∀ e ∈ s.L, RecOK w0 e) {x : Ev} (hx : EvOK w0 x) : Calls Try.prog 15 #[.pointer (some ⟨P.pp, 0, none⟩), x.v] w fun r w' => r = .returned (.bool (lookOkB (rho w0) s x)) ∧ Fr [] w w' := by
  obtain ⟨o, ho⟩ : ∃ o, lookE s.L x.de.q x.now = o := ⟨_, rfl⟩
  have HLV : Hd (lookV s.L x.de.q x.now = .agg #[.string o.q.name, .int .u16 o.q.ty, .int .u16 o.q.cl, .slice o.ra o.rn o.rc, .int .i64 o.rcode, .int .i64 o.rank, .int .u64 o.expire]) := Hd.mk (by rw [look_v, ho]; rfl)
  obtain ⟨ok, hok⟩ : ∃ ok, lookB s.L x.de.q x.now = ok := ⟨_, rfl⟩
  obtain ⟨sb, hsb⟩ : ∃ b, sameB (rho w0) o x.told = b := ⟨_, rfl⟩
  obtain ⟨xi, hxi⟩ : ∃ b, x.is = b := ⟨_, rfl⟩
  have HLB := Hd.mk hok
  have HOK := Hd.mk hok
  have HO := Hd.mk ho
  have HS := Hd.mk hsb
  have HXI := Hd.mk hxi
  have HOR : Hd (RecOK w0 o) := Hd.mk (by rw [← ho]; exact lookE_ok hL _ _)
  have HX := Hd.mk hx
  have HGN := Hd.mk hx.gone.n
  have H := Hd.mk h
  have H0 := Hd.mk h0
  clear h ho hok hsb hxi hL hx h0
  unfold Ev.v
  rw [HXI.out]
  go_enter Try.func15, Try.ntmps15
  go_upto_region 1 with (fail)
  refine wp_name ?_; intro w1 hw1
  have hf1 := alloc_of hw1
  have hb1 := blk_of (T := 38) (c := [.int .i64 x.kind, .string x.de.q.name, .int .u16 x.de.q.ty, .int .u16 x.de.q.cl, .slice x.de.ra x.de.rn x.de.rc, .int .i64 x.de.rcode, .int .i64 x.de.rank, .int .u64 x.de.expire, .int .u64 x.now, .int .i64 x.sh, .string x.told.q.name, .int .u16 x.told.q.ty, .int .u16 x.told.q.cl, .slice x.told.ra x.told.rn x.told.rc, .int .i64 x.told.rcode, .int .i64 x.told.rank, .int .u64 x.told.expire, .bool xi, .int .i64 x.err, .slice x.ga x.gn x.gc]) hw1
  clear hw1
  obtain ⟨bx, hbx⟩ : ∃ p, w.heap.size = p := ⟨_, rfl⟩
  rw [hbx] at hb1 ⊢
  have HF1 := Hd.mk hf1.drew
  have H1 := H.out.fr0 hf1
  have HPB : Hd (Blk w1.drew P.pp 57 [.pointer (some ⟨P.pm, 0, none⟩), .map (some P.be)]) := Hd.mk H1.blk.drew
  have HBX : Hd (Blk w1.drew bx 38 [.int .i64 x.kind, .string x.de.q.name, .int .u16 x.de.q.ty, .int .u16 x.de.q.cl, .slice x.de.ra x.de.rn x.de.rc, .int .i64 x.de.rcode, .int .i64 x.de.rank, .int .u64 x.de.expire, .int .u64 x.now, .int .i64 x.sh, .string x.told.q.name, .int .u16 x.told.q.ty, .int .u16 x.told.q.cl, .slice x.told.ra x.told.rn x.told.rc, .int .i64 x.told.rcode, .int .i64 x.told.rank, .int .u64 x.told.expire, .bool xi, .int .i64 x.err, .slice x.ga x.gn x.gc]) := Hd.mk hb1.drew
  have HMM : Hd (MAt w1.drew P.pm P.bm P.room s.L) := Hd.mk (H1.m.fr ((Fr.refl [] w1).drew) (by simp) (by simp))
  obtain ⟨N, hN⟩ : ∃ N, w1.drew.heap.size = N := ⟨_, rfl⟩
  have HN := Hd.mk hN
  have HNM : Hd (P.pm < N ∧ P.bm < N) := Hd.mk (by rw [← hN]; exact ⟨HMM.out.plt, HMM.out.blt⟩)
  clear hf1 hb1 hbx H1 hN
  go_wp2_with fail
  refine wp_region_gs { R := FrT N [] 32, R1 := Fr [], gs := [Is (.pointer (some ⟨P.pp, 0, none⟩)), Is (.pointer (some ⟨P.pp, 0, none⟩)), Is (.pointer (some ⟨P.pp, 0, none⟩)), Is (.pointer (some ⟨P.pm, 0, none⟩)), Is (.pointer (some ⟨bx, 0, none⟩)), Is (.pointer (some ⟨bx, 1, none⟩)), Is (.pointer (some ⟨bx, 1, none⟩)), Is (.agg #[.string x.de.q.name, .int .u16 x.de.q.ty, .int .u16 x.de.q.cl]), Is (.pointer (some ⟨bx, 0, none⟩)), Is (.pointer (some ⟨bx, 8, none⟩)), Is (.int .u64 x.now), Is (.tuple #[.agg #[.string o.q.name, .int .u16 o.q.ty, .int .u16 o.q.cl, .slice o.ra o.rn o.rc, .int .i64 o.rcode, .int .i64 o.rank, .int .u64 o.expire], .bool ok]), Is (.tuple #[.agg #[.string o.q.name, .int .u16 o.q.ty, .int .u16 o.q.cl, .slice o.ra o.rn o.rc, .int .i64 o.rcode, .int .i64 o.rank, .int .u64 o.expire], .bool ok]), Is (.agg #[.string o.q.name, .int .u16 o.q.ty, .int .u16 o.q.cl, .slice o.ra o.rn o.rc, .int .i64 o.rcode, .int .i64 o.rank, .int .u64 o.expire]), Is (.bool ok), (fun (v : Value) (w2 : World) => ∃ g, v = .pointer (some ⟨g, 0, none⟩) ∧ N ≤ g ∧ BlkN w2 g 32 7), No, Is (.bool ok)], ds := [some 8, some 9, some 10, some 11, some 12, some 13, some 14, some 15, some 16, some 17, some 18, some 19, some 7, some 20, some 21, some 5, none, some 6], fl := [false, false, false, false, false, false, false, false, false, false, false, false, false, false, false, false, true, false], hs := [fun _ _ => True, fun l w2 => ∃ g, l = [.pointer (some ⟨g, 0, none⟩)] ∧ N ≤ g ∧ Blk w2 g 32 [.string o.q.name, .int .u16 o.q.ty, .int .u16 o.q.cl, .slice o.ra o.rn o.rc, .int .i64 o.rcode, .int .i64 o.rank, .int .u64 o.expire]], hd := [[], [5]] } [false, false, false, false, false, true, true, true, true, true, true, true, true, true, true, true, true, true, true, true, true, true, false, false, false, false, false, false, false, false, false, false, false, false, false, false, false, false, false, false, false, false, false] (by kernel_rfl) _ (by kernel_rfl) (by kernel_rfl) (by kernel_rfl) (by kernel_rfl) rfl [] (fun _ _ _ h1 h2 => h1.trans h2) (fun _ _ h => FrT.of (h.mono (by simp))) (staI (staI (staI (staI (staI (staI (staI (staI (staI (staI (staI (staI (staI (staI (staI (sta (fun _ _ _ hf ⟨g, h1, h2, h3⟩ => ⟨g, h1, h2, h3.frT hf (by simp)⟩) (staN (staI sta0)))))))))))))))))) (sth (fun _ _ _ _ h => h) (sth (fun _ _ _ hf ⟨g, h1, h2, h3⟩ => ⟨g, h1, h2, h3.fr hf (by simp)⟩) sth0)) (fun _ _ h => h.size) _ (FrT.of (Fr.refl _ _)) trivial ?_ ?_
  · refine ⟨?_, ?_, ?_, ?_, ?_, ?_, ?_, ?_, ?_, ?_, ?_, ?_, ?_, ?_, ?_, ?_, ?_, ?_, trivial⟩
    · intro σ w' hR hd
      simp only [fill, Nat.reduceAdd, if_true, Bool.false_eq_true, if_false]
      clear hd
      go_wp2
      exact ⟨Fr.refl _ _, rfl⟩
    · intro σ w' hR hd
      simp only [fill, Nat.reduceAdd, if_true, Bool.false_eq_true, if_false]
      obtain h8 : σ 8 = _ := hd 0 (by decide)
      rw [h8]
      clear h8
      clear hd
      go_wp2
      exact ⟨Fr.refl _ _, rfl⟩
    · intro σ w' hR hd
      simp only [fill, Nat.reduceAdd, if_true, Bool.false_eq_true, if_false]
      obtain h9 : σ 9 = _ := hd 1 (by decide)
      rw [h9]
      clear h9
      clear hd
      go_wp2
      exact ⟨Fr.refl _ _, rfl⟩
    · intro σ w' hR hd
      simp only [fill, Nat.reduceAdd, if_true, Bool.false_eq_true, if_false]
      obtain h10 : σ 10 = _ := hd 2 (by decide)
      rw [h10]
      clear h10
      clear hd
      have d0 : w'.cell? ⟨P.pp, 0, none⟩ = some (.pointer (some ⟨P.pm, 0, none⟩)) := (HPB.out.frT hR (by simp) (.inr (by decide))).cell (i := 0) rfl
      go_wp2
      exact ⟨Fr.refl _ _, rfl⟩
    · intro σ w' hR hd
      simp only [fill, Nat.reduceAdd, if_true, Bool.false_eq_true, if_false]
      clear hd
      go_wp2
      exact ⟨Fr.refl _ _, rfl⟩
    · intro σ w' hR hd
      simp only [fill, Nat.reduceAdd, if_true, Bool.false_eq_true, if_false]
      obtain h12 : σ 12 = _ := hd 4 (by decide)
      rw [h12]
      clear h12
      clear hd
      go_wp2
      exact ⟨Fr.refl _ _, rfl⟩
    · intro σ w' hR hd
      simp only [fill, Nat.reduceAdd, if_true, Bool.false_eq_true, if_false]
      obtain h13 : σ 13 = _ := hd 5 (by decide)
      rw [h13]
      clear h13
      clear hd
      go_wp2
      exact ⟨Fr.refl _ _, rfl⟩
    · intro σ w' hR hd
      simp only [fill, Nat.reduceAdd, if_true, Bool.false_eq_true, if_false]
      obtain h14 : σ 14 = _ := hd 6 (by decide)
      rw [h14]
      clear h14
      clear hd
      have d1 : w'.cell? ⟨bx, 1, none⟩ = some (.string x.de.q.name) := ((HBX.out.frT hR (by simp) (.inr (by decide)))).cell (i := 1) rfl
      have d2 : w'.cell? ⟨bx, 2, none⟩ = some (.int .u16 x.de.q.ty) := ((HBX.out.frT hR (by simp) (.inr (by decide)))).cell (i := 2) rfl
      have d3 : w'.cell? ⟨bx, 3, none⟩ = some (.int .u16 x.de.q.cl) := ((HBX.out.frT hR (by simp) (.inr (by decide)))).cell (i := 3) rfl
      go_wp2
      exact ⟨Fr.refl _ _, rfl⟩
    · intro σ w' hR hd
      simp only [fill, Nat.reduceAdd, if_true, Bool.false_eq_true, if_false]
      clear hd
      go_wp2
      exact ⟨Fr.refl _ _, rfl⟩
    · intro σ w' hR hd
      simp only [fill, Nat.reduceAdd, if_true, Bool.false_eq_true, if_false]
      obtain h16 : σ 16 = _ := hd 8 (by decide)
      rw [h16]
      clear h16
      clear hd
      go_wp2
      exact ⟨Fr.refl _ _, rfl⟩
    · intro σ w' hR hd
      simp only [fill, Nat.reduceAdd, if_true, Bool.false_eq_true, if_false]
      obtain h17 : σ 17 = _ := hd 9 (by decide)
      rw [h17]
      clear h17
      clear hd
      have d8 : w'.cell? ⟨bx, 8, none⟩ = some (.int .u64 x.now) := ((HBX.out.frT hR (by simp) (.inr (by decide)))).cell (i := 8) rfl
      go_wp2
      exact ⟨Fr.refl _ _, rfl⟩
    · intro σ w' hR hd
      simp only [fill, Nat.reduceAdd, if_true, Bool.false_eq_true, if_false]
      obtain h11 : σ 11 = _ := hd 3 (by decide)
      obtain h15 : σ 15 = _ := hd 7 (by decide)
      obtain h18 : σ 18 = _ := hd 10 (by decide)
      rw [h11, h15, h18]
      clear h11 h15 h18
      clear hd
      have hm4 := HMM.out.frT hR (by simp) (by simp) HNM.out.1 HNM.out.2
      go_wp2_with fail
      refine (lookup_calls hm4 x.de.q (x.now)).mono ?_
      rintro r w4 ⟨rfl, hf0⟩
      have hf4 := Hd.mk hf0
      clear hf0
      rw [HLV.out, HLB.out]
      go_wp2
      exact ⟨hf4.out, rfl⟩
    · intro σ w' hR hd
      simp only [fill, Nat.reduceAdd, if_true, Bool.false_eq_true, if_false]
      obtain h19 : σ 19 = _ := hd 11 (by decide)
      rw [h19]
      clear h19
      clear hd
      go_wp2
      exact ⟨Fr.refl _ _, rfl⟩
    · intro σ w' hR hd
      simp only [fill, Nat.reduceAdd, if_true, Bool.false_eq_true, if_false]
      obtain h7 : σ 7 = _ := hd 12 (by decide)
      rw [h7]
      clear h7
      clear hd
      go_wp2
      exact ⟨Fr.refl _ _, rfl⟩
    · intro σ w' hR hd
      simp only [fill, Nat.reduceAdd, if_true, Bool.false_eq_true, if_false]
      obtain h7 : σ 7 = _ := hd 12 (by decide)
      rw [h7]
      clear h7
      clear hd
      go_wp2
      exact ⟨Fr.refl _ _, rfl⟩
    · intro σ w' hR hd
      simp only [fill, Nat.reduceAdd, if_true, Bool.false_eq_true, if_false]
      clear hd
      have hz := hR.size
      have hn := HN.out
      simp only [World.size_drew] at hz hn
      go_wp2
      exact ⟨(Fr.refl _ _).alloc _, ⟨_, rfl, by omega, _, rfl, Blk.new _ _ _⟩⟩
    · intro σ w' hR hd hH
      simp only [fill, Nat.reduceAdd, if_true, Bool.false_eq_true, if_false]
      obtain ⟨g, h5, hg1, cs, hcl, hgb⟩ : (fun (v : Value) (w2 : World) => ∃ g, v = .pointer (some ⟨g, 0, none⟩) ∧ N ≤ g ∧ BlkN w2 g 32 7) (σ 5) w' := hd 15 (by decide)
      obtain h20 : σ 20 = _ := hd 13 (by decide)
      rw [h5, h20]
      clear h5 h20
      clear hd
      match cs, hcl, hgb with
      | [e0, e1, e2, e3, e4, e5, e6], _, hgb =>
      obtain ⟨r0, r1, r2, r3, r4, r5, r6, rf⟩ := hgb.cells7
      go_wp2
      clear r0 r1 r2 r3 r4 r5 r6 rf
      obtain ⟨hq2, hfq⟩ := hgb.seven (a' := .string o.q.name) (b' := .int .u16 o.q.ty) (c' := .int .u16 o.q.cl) (d' := .slice o.ra o.rn o.rc) (e' := .int .i64 o.rcode) (f' := .int .i64 o.rank) (h' := .int .u64 o.expire) rfl
      exact ⟨FrT.set hfq hg1 hgb hq2 rfl, trivial, ⟨g, rfl, hg1, hq2⟩⟩
    · intro σ w' hR hd
      simp only [fill, Nat.reduceAdd, if_true, Bool.false_eq_true, if_false]
      obtain h21 : σ 21 = _ := hd 14 (by decide)
      rw [h21]
      clear h21
      clear hd
      go_wp2
      exact ⟨Fr.refl _ _, rfl⟩
  · intro σ w3 hR hG hH
    obtain h6 : σ 6 = _ := hG 17 (by decide)
    obtain ⟨g, h7, hg1, hgb⟩ : ∃ g, [σ 5] = [.pointer (some ⟨g, 0, none⟩)] ∧ N ≤ g ∧ Blk w3 g 32 [.string o.q.name, .int .u16 o.q.ty, .int .u16 o.q.cl, .slice o.ra o.rn o.rc, .int .i64 o.rcode, .int .i64 o.rank, .int .u64 o.expire] := hH
    have h7 : σ 5 = .pointer (some ⟨g, 0, none⟩) := by simpa using h7
    simp only [fill, Nat.reduceAdd, if_true, Bool.false_eq_true, if_false, h6, h7]
    clear h6 h7
    clear hG
    have hF3 : Fr [] w1.drew w3 := hR.fr (by rw [HN.out]; exact Nat.le_refl _)
    have HF5 := Hd.mk (HF1.out.trans hF3)
    have HBX5 := Hd.mk (HBX.out.fr hF3 (by simp))
    obtain ⟨w5, hw5⟩ : ∃ x, w3 = x := ⟨_, rfl⟩
    rw [hw5] at HF5 HBX5 hgb ⊢
    have g0 : w5.cell? ⟨g, 0, none⟩ = some (.string o.q.name) := (hgb).cell (i := 0) rfl
    have g1 : w5.cell? ⟨g, 1, none⟩ = some (.int .u16 o.q.ty) := (hgb).cell (i := 1) rfl
    have g2 : w5.cell? ⟨g, 2, none⟩ = some (.int .u16 o.q.cl) := (hgb).cell (i := 2) rfl
    have g3 : w5.cell? ⟨g, 3, none⟩ = some (.slice o.ra o.rn o.rc) := (hgb).cell (i := 3) rfl
    have g4 : w5.cell? ⟨g, 4, none⟩ = some (.int .i64 o.rcode) := (hgb).cell (i := 4) rfl
    have g5 : w5.cell? ⟨g, 5, none⟩ = some (.int .i64 o.rank) := (hgb).cell (i := 5) rfl
    have g6 : w5.cell? ⟨g, 6, none⟩ = some (.int .u64 o.expire) := (hgb).cell (i := 6) rfl
    have c10 : w5.cell? ⟨bx, 10, none⟩ = some (.string x.told.q.name) := (HBX5.out).cell (i := 10) rfl
    have c11 : w5.cell? ⟨bx, 11, none⟩ = some (.int .u16 x.told.q.ty) := (HBX5.out).cell (i := 11) rfl
    have c12 : w5.cell? ⟨bx, 12, none⟩ = some (.int .u16 x.told.q.cl) := (HBX5.out).cell (i := 12) rfl
    have c13 : w5.cell? ⟨bx, 13, none⟩ = some (.slice x.told.ra x.told.rn x.told.rc) := (HBX5.out).cell (i := 13) rfl
    have c14 : w5.cell? ⟨bx, 14, none⟩ = some (.int .i64 x.told.rcode) := (HBX5.out).cell (i := 14) rfl
    have c15 : w5.cell? ⟨bx, 15, none⟩ = some (.int .i64 x.told.rank) := (HBX5.out).cell (i := 15) rfl
    have c16 : w5.cell? ⟨bx, 16, none⟩ = some (.int .u64 x.told.expire) := (HBX5.out).cell (i := 16) rfl
    clear hF3 hgb hw5 hR hg1
    go_wp2_with fail
    refine (same_calls (a := o) (b := x.told) (H0.out.trans HF5.out) HOR.out HX.out.told).mono ?_
    rintro r w6 ⟨rfl, hf6⟩
    have HF6 := Hd.mk (HF5.out.trans hf6)
    rw [HS.out]
    have hb6 := HBX5.out.fr hf6 (by simp)
    have c17 : w6.cell? ⟨bx, 17, none⟩ = some (.bool xi) := (hb6).cell (i := 17) rfl
    have c18 : w6.cell? ⟨bx, 18, none⟩ = some (.int .i64 x.err) := (hb6).cell (i := 18) rfl
    have c19 : w6.cell? ⟨bx, 19, none⟩ = some (.slice x.ga x.gn x.gc) := (hb6).cell (i := 19) rfl
    clear hf6 hb6
    cases sb with
    | false =>
      have HGO : Hd (lookOkB (rho w0) s x = false) := Hd.mk (by unfold lookOkB; rw [HO.out, HS.out]; simp)
      go_wp2
      go_ret
      exact ⟨by rw [HGO.out]; rfl, HF6.out⟩
    | true =>
      cases ok with
      | false =>
        cases xi with
        | false =>
          by_cases he : x.err = 0
          · rw [he] at c18
            have HER : Hd (decide (x.err = 0) = true) := Hd.mk (decide_eq_true he)
            clear he
            by_cases hl : x.gn = 0
            · rw [hl] at c19
              have HGO : Hd (lookOkB (rho w0) s x = true) := Hd.mk (by unfold lookOkB; rw [HO.out, HS.out, HOK.out, HXI.out, HER.out, decide_eq_true (HGN.out ▸ hl : x.G.length = 0)]; rfl)
              clear hl
              go_wp2
              go_ret
              exact ⟨by rw [HGO.out]; rfl, HF6.out⟩
            · have HGO : Hd (lookOkB (rho w0) s x = false) := Hd.mk (by unfold lookOkB; rw [decide_eq_false (HGN.out ▸ hl : ¬ x.G.length = 0), Bool.and_false])
              have HL' : Hd (¬ (x.gn : Int) = 0) := Hd.mk (by omega)
              clear hl
              go_wp2
              go_ret
              exact ⟨by rw [HGO.out]; show Ending.returned (Value.bool ((x.gn : Int) == 0)) = _; rw [beq_eq_false_iff_ne.2 HL'.out], HF6.out⟩
          · have HGO : Hd (lookOkB (rho w0) s x = false) := Hd.mk (by unfold lookOkB; rw [decide_eq_false he, Bool.and_false, Bool.false_and])
            go_wp2
            go_ret
            exact ⟨by rw [HGO.out]; rfl, HF6.out⟩
        | true =>
          have HGO : Hd (lookOkB (rho w0) s x = false) := Hd.mk (by unfold lookOkB; rw [HOK.out, HXI.out]; simp)
          go_wp2
          go_ret
          exact ⟨by rw [HGO.out]; rfl, HF6.out⟩
      | true =>
        cases xi with
        | false =>
          have HGO : Hd (lookOkB (rho w0) s x = false) := Hd.mk (by unfold lookOkB; rw [HOK.out, HXI.out]; simp)
          go_wp2
          go_ret
          exact ⟨by rw [HGO.out]; rfl, HF6.out⟩
        | true =>
          by_cases he : x.err = 0
          · rw [he] at c18
            have HER : Hd (decide (x.err = 0) = true) := Hd.mk (decide_eq_true he)
            clear he
            by_cases hl : x.gn = 0
            · rw [hl] at c19
              have HGO : Hd (lookOkB (rho w0) s x = true) := Hd.mk (by unfold lookOkB; rw [HO.out, HS.out, HOK.out, HXI.out, HER.out, decide_eq_true (HGN.out ▸ hl : x.G.length = 0)]; rfl)
              clear hl
              go_wp2
              go_ret
              exact ⟨by rw [HGO.out]; rfl, HF6.out⟩
            · have HGO : Hd (lookOkB (rho w0) s x = false) := Hd.mk (by unfold lookOkB; rw [decide_eq_false (HGN.out ▸ hl : ¬ x.G.length = 0), Bool.and_false])
              have HL' : Hd (¬ (x.gn : Int) = 0) := Hd.mk (by omega)
              clear hl
              go_wp2
              go_ret
              exact ⟨by rw [HGO.out]; show Ending.returned (Value.bool ((x.gn : Int) == 0)) = _; rw [beq_eq_false_iff_ne.2 HL'.out], HF6.out⟩
          · have HGO : Hd (lookOkB (rho w0) s x = false) := Hd.mk (by unfold lookOkB; rw [decide_eq_false he, Bool.and_false, Bool.false_and])
            go_wp2
            go_ret
            exact ⟨by rw [HGO.out]; rfl, HF6.out⟩
end Go.Proofs.Ytbmejolmbfmdiaa
