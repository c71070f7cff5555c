import Derived.Test.YtbmejolmbfmdiaaH6
namespace Go.Proofs.Ytbmejolmbfmdiaa
open Go Go.RowKit Go.Lib Go.Proofs.MapL

/-- The entry that Lookup tells. -/
def lookE (L : List En) (q : Qn) (now : Int) : En := match findE L q with
  | some e => if liveB e.expire now then e else zeroE
  | none => zeroE
theorem look_v (L : List En) (q : Qn) (now : Int) : lookV L q now = (lookE L q now).v := by
  unfold lookV lookE
  cases findE L q with
  | none => rfl
  | some e =>
    dsimp only
    split
    · rfl
    · rfl
/-- What an insertion that needs no room tells. -/
def whyC (s : Ps) (e : En) (now : Int) : Int := if liveB e.expire now then (if (findE s.L e.q).isSome && !beatsB (lookE s.L e.q 0) e now then 7 else 0) else 4
set_option maxRecDepth 100000 in
set_option maxHeartbeats 8000000 in
theorem why_calls {w : World} {P : Pt} {s : Ps} (h : PtAt w P s) (e : En) (now : Int) : Calls Try.prog 23 #[.pointer (some ⟨P.pp, 0, none⟩), e.v, .int .u64 now] w fun r w' => r = .returned (.int .i64 (whyC s e now)) ∧ Fr [] w w' := by
  obtain ⟨o, ho⟩ : ∃ o, lookE s.L e.q 0 = o := ⟨_, rfl⟩
  have HLV : Hd (lookV s.L e.q 0 = .agg #[.string o.q.name, .int .u16 o.q.ty, .int .u16 o.q.cl, .slice o.ra o.rn o.rc, .int .i64 o.rcode, .int .i64 o.rank, .int .u64 o.expire]) := Hd.mk (by rw [look_v, ho]; rfl)
  obtain ⟨ok, hok⟩ : ∃ ok, lookB s.L e.q 0 = ok := ⟨_, rfl⟩
  have HLB := Hd.mk hok
  have HO := Hd.mk ho
  have H := Hd.mk h
  clear h ho hok
  unfold En.v
  go_enter Try.func23, Try.ntmps23
  go_wp2_with fail
  refine wp_name ?_; intro w1 hw1
  have hf1 := alloc_of hw1
  have hb1 := blk_of (T := 32) (c := [.string e.q.name, .int .u16 e.q.ty, .int .u16 e.q.cl, .slice e.ra e.rn e.rc, .int .i64 e.rcode, .int .i64 e.rank, .int .u64 e.expire]) hw1
  clear hw1
  obtain ⟨be, hbe⟩ : ∃ p, w.heap.size = p := ⟨_, rfl⟩
  rw [hbe] at hb1 ⊢
  have HF1 := Hd.mk hf1.drew
  have H1 := H.out.fr0 hf1
  have HPB : Hd (Blk w1.drew P.pp 57 [.pointer (some ⟨P.pm, 0, none⟩), .map (some P.be)]) := Hd.mk H1.blk.drew
  have HBX : Hd (Blk w1.drew be 32 [.string e.q.name, .int .u16 e.q.ty, .int .u16 e.q.cl, .slice e.ra e.rn e.rc, .int .i64 e.rcode, .int .i64 e.rank, .int .u64 e.expire]) := Hd.mk hb1.drew
  have HMM : Hd (MAt w1.drew P.pm P.bm P.room s.L) := Hd.mk (H1.m.fr ((Fr.refl [] w1).drew) (by simp) (by simp))
  obtain ⟨N, hN⟩ : ∃ N, w1.drew.heap.size = N := ⟨_, rfl⟩
  have HN := Hd.mk hN
  have HBL : Hd (be < N) := Hd.mk (by rw [← hN]; exact HBX.out.lt)
  have HNM : Hd (P.pm < N ∧ P.bm < N) := Hd.mk (by rw [← hN]; exact ⟨HMM.out.plt, HMM.out.blt⟩)
  clear hf1 hb1 hbe H1 hN
  refine wp_region_gs { R := FrT N [] 32, R1 := Fr [], gs := [Is (.pointer (some ⟨P.pp, 0, none⟩)), Is (.pointer (some ⟨P.pp, 0, none⟩)), Is (.pointer (some ⟨P.pp, 0, none⟩)), Is (.pointer (some ⟨P.pm, 0, none⟩)), Is (.pointer (some ⟨be, 0, none⟩)), Is (.agg #[.string e.q.name, .int .u16 e.q.ty, .int .u16 e.q.cl]), Is (.tuple #[.agg #[.string o.q.name, .int .u16 o.q.ty, .int .u16 o.q.cl, .slice o.ra o.rn o.rc, .int .i64 o.rcode, .int .i64 o.rank, .int .u64 o.expire], .bool ok]), Is (.tuple #[.agg #[.string o.q.name, .int .u16 o.q.ty, .int .u16 o.q.cl, .slice o.ra o.rn o.rc, .int .i64 o.rcode, .int .i64 o.rank, .int .u64 o.expire], .bool ok]), Is (.agg #[.string o.q.name, .int .u16 o.q.ty, .int .u16 o.q.cl, .slice o.ra o.rn o.rc, .int .i64 o.rcode, .int .i64 o.rank, .int .u64 o.expire]), Is (.bool ok), (fun (v : Value) (w2 : World) => ∃ g, v = .pointer (some ⟨g, 0, none⟩) ∧ N ≤ g ∧ BlkN w2 g 32 7), No, Is (.bool ok)], ds := [some 10, some 11, some 12, some 13, some 14, some 15, some 16, some 9, some 17, some 18, some 7, none, some 8], fl := [false, false, false, false, false, false, false, false, false, false, false, true, false], hs := [fun _ _ => True, fun l w2 => ∃ g, l = [.pointer (some ⟨g, 0, none⟩)] ∧ N ≤ g ∧ Blk w2 g 32 [.string o.q.name, .int .u16 o.q.ty, .int .u16 o.q.cl, .slice o.ra o.rn o.rc, .int .i64 o.rcode, .int .i64 o.rank, .int .u64 o.expire]], hd := [[], [7]] } [false, false, false, false, false, false, false, true, true, true, true, true, true, true, true, true, true, true, true, false, false, false, false, false, false, false, false, false, false, false, false, false, false, false, false, false, false, false, false, false] (by kernel_rfl) _ (by kernel_rfl) (by kernel_rfl) (by kernel_rfl) (by kernel_rfl) rfl [] (fun _ _ _ h1 h2 => h1.trans h2) (fun _ _ h => FrT.of (h.mono (by simp))) (staI (staI (staI (staI (staI (staI (staI (staI (staI (staI (sta (fun _ _ _ hf ⟨g, h1, h2, h3⟩ => ⟨g, h1, h2, h3.frT hf (by simp)⟩) (staN (staI sta0))))))))))))) (sth (fun _ _ _ _ h => h) (sth (fun _ _ _ hf ⟨g, h1, h2, h3⟩ => ⟨g, h1, h2, h3.fr hf (by simp)⟩) sth0)) (fun _ _ h => h.size) _ (FrT.of (Fr.refl _ _)) trivial ?_ ?_
  · refine ⟨?_, ?_, ?_, ?_, ?_, ?_, ?_, ?_, ?_, ?_, ?_, ?_, ?_, trivial⟩
    · intro σ w' hR hd
      simp only [fill, Nat.reduceAdd, if_true, Bool.false_eq_true, if_false]
      clear hd
      go_wp2
      exact ⟨Fr.refl _ _, rfl⟩
    · intro σ w' hR hd
      simp only [fill, Nat.reduceAdd, if_true, Bool.false_eq_true, if_false]
      obtain h10 : σ 10 = _ := hd 0 (by decide)
      rw [h10]
      clear h10
      clear hd
      go_wp2
      exact ⟨Fr.refl _ _, rfl⟩
    · intro σ w' hR hd
      simp only [fill, Nat.reduceAdd, if_true, Bool.false_eq_true, if_false]
      obtain h11 : σ 11 = _ := hd 1 (by decide)
      rw [h11]
      clear h11
      clear hd
      go_wp2
      exact ⟨Fr.refl _ _, rfl⟩
    · intro σ w' hR hd
      simp only [fill, Nat.reduceAdd, if_true, Bool.false_eq_true, if_false]
      obtain h12 : σ 12 = _ := hd 2 (by decide)
      rw [h12]
      clear h12
      clear hd
      have d0 : w'.cell? ⟨P.pp, 0, none⟩ = some (.pointer (some ⟨P.pm, 0, none⟩)) := (HPB.out.frT hR (by simp) (.inr (by decide))).cell (i := 0) rfl
      go_wp2
      exact ⟨Fr.refl _ _, rfl⟩
    · intro σ w' hR hd
      simp only [fill, Nat.reduceAdd, if_true, Bool.false_eq_true, if_false]
      clear hd
      go_wp2
      exact ⟨Fr.refl _ _, rfl⟩
    · intro σ w' hR hd
      simp only [fill, Nat.reduceAdd, if_true, Bool.false_eq_true, if_false]
      obtain h14 : σ 14 = _ := hd 4 (by decide)
      rw [h14]
      clear h14
      clear hd
      have d0 : w'.cell? ⟨be, 0, none⟩ = some (.string e.q.name) := ((HBX.out.frT hR (by simp) (.inl HBL.out))).cell (i := 0) rfl
      have d1 : w'.cell? ⟨be, 1, none⟩ = some (.int .u16 e.q.ty) := ((HBX.out.frT hR (by simp) (.inl HBL.out))).cell (i := 1) rfl
      have d2 : w'.cell? ⟨be, 2, none⟩ = some (.int .u16 e.q.cl) := ((HBX.out.frT hR (by simp) (.inl HBL.out))).cell (i := 2) rfl
      go_wp2
      exact ⟨Fr.refl _ _, rfl⟩
    · intro σ w' hR hd
      simp only [fill, Nat.reduceAdd, if_true, Bool.false_eq_true, if_false]
      obtain h13 : σ 13 = _ := hd 3 (by decide)
      obtain h15 : σ 15 = _ := hd 5 (by decide)
      rw [h13, h15]
      clear h13 h15
      clear hd
      have hm4 := HMM.out.frT hR (by simp) (by simp) HNM.out.1 HNM.out.2
      go_wp2_with fail
      refine (lookup_calls hm4 e.q (0)).mono ?_
      rintro r w4 ⟨rfl, hf0⟩
      have hf4 := Hd.mk hf0
      clear hf0
      rw [HLV.out, HLB.out]
      go_wp2
      exact ⟨hf4.out, rfl⟩
    · intro σ w' hR hd
      simp only [fill, Nat.reduceAdd, if_true, Bool.false_eq_true, if_false]
      obtain h16 : σ 16 = _ := hd 6 (by decide)
      rw [h16]
      clear h16
      clear hd
      go_wp2
      exact ⟨Fr.refl _ _, rfl⟩
    · intro σ w' hR hd
      simp only [fill, Nat.reduceAdd, if_true, Bool.false_eq_true, if_false]
      obtain h9 : σ 9 = _ := hd 7 (by decide)
      rw [h9]
      clear h9
      clear hd
      go_wp2
      exact ⟨Fr.refl _ _, rfl⟩
    · intro σ w' hR hd
      simp only [fill, Nat.reduceAdd, if_true, Bool.false_eq_true, if_false]
      obtain h9 : σ 9 = _ := hd 7 (by decide)
      rw [h9]
      clear h9
      clear hd
      go_wp2
      exact ⟨Fr.refl _ _, rfl⟩
    · intro σ w' hR hd
      simp only [fill, Nat.reduceAdd, if_true, Bool.false_eq_true, if_false]
      clear hd
      have hz := hR.size
      have hn := HN.out
      simp only [World.size_drew] at hz hn
      go_wp2
      exact ⟨(Fr.refl _ _).alloc _, ⟨_, rfl, by omega, _, rfl, Blk.new _ _ _⟩⟩
    · intro σ w' hR hd hH
      simp only [fill, Nat.reduceAdd, if_true, Bool.false_eq_true, if_false]
      obtain ⟨g, h7, hg1, cs, hcl, hgb⟩ : (fun (v : Value) (w2 : World) => ∃ g, v = .pointer (some ⟨g, 0, none⟩) ∧ N ≤ g ∧ BlkN w2 g 32 7) (σ 7) w' := hd 10 (by decide)
      obtain h17 : σ 17 = _ := hd 8 (by decide)
      rw [h7, h17]
      clear h7 h17
      clear hd
      match cs, hcl, hgb with
      | [e0, e1, e2, e3, e4, e5, e6], _, hgb =>
      obtain ⟨r0, r1, r2, r3, r4, r5, r6, rf⟩ := hgb.cells7
      go_wp2
      clear r0 r1 r2 r3 r4 r5 r6 rf
      obtain ⟨hq2, hfq⟩ := hgb.seven (a' := .string o.q.name) (b' := .int .u16 o.q.ty) (c' := .int .u16 o.q.cl) (d' := .slice o.ra o.rn o.rc) (e' := .int .i64 o.rcode) (f' := .int .i64 o.rank) (h' := .int .u64 o.expire) rfl
      exact ⟨FrT.set hfq hg1 hgb hq2 rfl, trivial, ⟨g, rfl, hg1, hq2⟩⟩
    · intro σ w' hR hd
      simp only [fill, Nat.reduceAdd, if_true, Bool.false_eq_true, if_false]
      obtain h18 : σ 18 = _ := hd 9 (by decide)
      rw [h18]
      clear h18
      clear hd
      go_wp2
      exact ⟨Fr.refl _ _, rfl⟩
  · intro σ w3 hR hG hH
    obtain h8 : σ 8 = _ := hG 12 (by decide)
    obtain ⟨g, h7, hg1, hgb⟩ : ∃ g, [σ 7] = [.pointer (some ⟨g, 0, none⟩)] ∧ N ≤ g ∧ Blk w3 g 32 [.string o.q.name, .int .u16 o.q.ty, .int .u16 o.q.cl, .slice o.ra o.rn o.rc, .int .i64 o.rcode, .int .i64 o.rank, .int .u64 o.expire] := hH
    have h7 : σ 7 = .pointer (some ⟨g, 0, none⟩) := by simpa using h7
    simp only [fill, Nat.reduceAdd, if_true, Bool.false_eq_true, if_false, h8, h7]
    clear h8 h7
    clear hG
    have hF3 : Fr [] w1.drew w3 := hR.fr (by rw [HN.out]; exact Nat.le_refl _)
    have HF5 := Hd.mk (HF1.out.trans hF3)
    have HG4 := Hd.mk hgb.drew
    have HBX5 := Hd.mk (HBX.out.fr hF3 (by simp))
    have HBX4 := Hd.mk HBX5.out.drew
    have HPB4 := Hd.mk (HPB.out.fr hF3 (by simp)).drew
    have HMM4 : Hd (MAt w3.drew P.pm P.bm P.room s.L) := Hd.mk (HMM.out.fr hF3.drew (by simp) (by simp))
    obtain ⟨w5, hw5⟩ : ∃ x, w3 = x := ⟨_, rfl⟩
    rw [hw5] at HF5 HG4 HBX5 HBX4 HPB4 HMM4 ⊢
    have e6 : w5.cell? ⟨be, 6, none⟩ = some (.int .u64 e.expire) := HBX5.out.cell (i := 6) rfl
    clear hF3 hgb hw5 hR hg1
    cases hl : liveB e.expire now with
    | false =>
      have HGO : Hd (whyC s e now = 4) := Hd.mk (by unfold whyC; rw [hl]; rfl)
      go_wp2_with fail
      refine (live_calls _ _ _).mono ?_
      rintro r w6 ⟨rfl, rfl⟩
      rw [hl]
      clear hl
      go_wp2
      go_ret
      exact ⟨by rw [HGO.out]; rfl, HF5.out⟩
    | true =>
      cases his : (findE s.L e.q).isSome with
      | false =>
        have HGO : Hd (whyC s e now = 0) := Hd.mk (by unfold whyC; rw [hl, his]; rfl)
        have HIS := Hd.mk his
        clear his
        go_wp2_with fail
        refine (live_calls _ _ _).mono ?_
        rintro r w6 ⟨rfl, rfl⟩
        rw [hl]
        clear hl e6
        go_wp2_with fail
        refine wp_region_gs { R := Fr [], R1 := Fr [], gs := [Is (.pointer (some ⟨P.pp, 0, none⟩)), Is (.pointer (some ⟨P.pp, 0, none⟩)), Is (.pointer (some ⟨P.pp, 0, none⟩)), Is (.pointer (some ⟨P.pm, 0, none⟩)), Is (.pointer (some ⟨be, 0, none⟩)), Is (.agg #[.string e.q.name, .int .u16 e.q.ty, .int .u16 e.q.cl]), Is (.bool false), Is (.bool false), No, No, No, No, No, Is (.bool false), Is (.bool false)], ds := [some 26, some 27, some 28, some 29, some 30, some 31, some 32, some 33, some 34, some 35, some 36, some 37, some 38, some 39, some 25], fl := [false, false, false, false, false, false, false, false, false, false, false, false, false, false, false], hs := [], hd := [] } [false, false, false, false, false, false, false, false, false, false, false, false, false, false, false, false, false, false, false, false, false, false, false, false, false, true, true, true, true, true, true, true, true, true, true, true, true, true, true, true] (by kernel_rfl) _ (by kernel_rfl) (by kernel_rfl) (by kernel_rfl) (by kernel_rfl) rfl [] (fun _ _ _ h1 h2 => h1.trans h2) (fun _ _ h => h) (staI (staI (staI (staI (staI (staI (staI (staI (staN (staN (staN (staN (staN (staI (staI sta0))))))))))))))) sth0 (fun _ _ h => h.size) _ (Fr.refl _ _) trivial ?_ ?_
        · refine ⟨?_, ?_, ?_, ?_, ?_, ?_, ?_, ?_, ?_, ?_, ?_, ?_, ?_, ?_, ?_, trivial⟩
          · intro σ w' hR hd
            simp only [fill, Nat.reduceAdd, if_true, Bool.false_eq_true, if_false]
            clear hd
            go_wp2
            exact ⟨Fr.refl _ _, rfl⟩
          · intro σ w' hR hd
            simp only [fill, Nat.reduceAdd, if_true, Bool.false_eq_true, if_false]
            obtain h26 : σ 26 = _ := hd 0 (by decide)
            rw [h26]
            clear h26
            clear hd
            go_wp2
            exact ⟨Fr.refl _ _, rfl⟩
          · intro σ w' hR hd
            simp only [fill, Nat.reduceAdd, if_true, Bool.false_eq_true, if_false]
            obtain h27 : σ 27 = _ := hd 1 (by decide)
            rw [h27]
            clear h27
            clear hd
            go_wp2
            exact ⟨Fr.refl _ _, rfl⟩
          · intro σ w' hR hd
            simp only [fill, Nat.reduceAdd, if_true, Bool.false_eq_true, if_false]
            obtain h28 : σ 28 = _ := hd 2 (by decide)
            rw [h28]
            clear h28
            clear hd
            have d0 : w'.cell? ⟨P.pp, 0, none⟩ = some (.pointer (some ⟨P.pm, 0, none⟩)) := (HPB4.out.fr hR (by simp)).cell (i := 0) rfl
            go_wp2
            exact ⟨Fr.refl _ _, rfl⟩
          · intro σ w' hR hd
            simp only [fill, Nat.reduceAdd, if_true, Bool.false_eq_true, if_false]
            clear hd
            go_wp2
            exact ⟨Fr.refl _ _, rfl⟩
          · intro σ w' hR hd
            simp only [fill, Nat.reduceAdd, if_true, Bool.false_eq_true, if_false]
            obtain h30 : σ 30 = _ := hd 4 (by decide)
            rw [h30]
            clear h30
            clear hd
            have d0 : w'.cell? ⟨be, 0, none⟩ = some (.string e.q.name) := (HBX4.out.fr hR (by simp)).cell (i := 0) rfl
            have d1 : w'.cell? ⟨be, 1, none⟩ = some (.int .u16 e.q.ty) := (HBX4.out.fr hR (by simp)).cell (i := 1) rfl
            have d2 : w'.cell? ⟨be, 2, none⟩ = some (.int .u16 e.q.cl) := (HBX4.out.fr hR (by simp)).cell (i := 2) rfl
            go_wp2
            exact ⟨Fr.refl _ _, rfl⟩
          · intro σ w' hR hd
            simp only [fill, Nat.reduceAdd, if_true, Bool.false_eq_true, if_false]
            obtain h29 : σ 29 = _ := hd 3 (by decide)
            obtain h31 : σ 31 = _ := hd 5 (by decide)
            rw [h29, h31]
            clear h29 h31
            clear hd
            have hm4 := HMM4.out.fr hR (by simp) (by simp)
            go_wp2_with fail
            refine (has_calls hm4 e.q).mono ?_
            rintro r w4 ⟨rfl, hf0⟩
            have hf4 := Hd.mk hf0
            clear hf0
            rw [HIS.out]
            go_wp2
            exact ⟨hf4.out, rfl⟩
          · intro σ w' hR hd
            simp only [fill, Nat.reduceAdd, if_true, Bool.false_eq_true, if_false]
            obtain h32 : σ 32 = _ := hd 6 (by decide)
            rw [h32]
            clear h32
            clear hd
            go_wp2
            exact ⟨Fr.refl _ _, rfl⟩
          · intro σ w' hR hd
            simp only [fill, Nat.reduceAdd, if_true, Bool.false_eq_true, if_false]
            obtain h33 : σ 33 = _ := hd 7 (by decide)
            rw [h33]
            clear h33
            clear hd
            go_wp2
            exact ⟨Fr.refl _ _, trivial⟩
          · intro σ w' hR hd
            simp only [fill, Nat.reduceAdd, if_true, Bool.false_eq_true, if_false]
            obtain h33 : σ 33 = _ := hd 7 (by decide)
            rw [h33]
            clear h33
            clear hd
            go_wp2
            exact ⟨Fr.refl _ _, trivial⟩
          · intro σ w' hR hd
            simp only [fill, Nat.reduceAdd, if_true, Bool.false_eq_true, if_false]
            obtain h33 : σ 33 = _ := hd 7 (by decide)
            rw [h33]
            clear h33
            clear hd
            go_wp2
            exact ⟨Fr.refl _ _, trivial⟩
          · intro σ w' hR hd
            simp only [fill, Nat.reduceAdd, if_true, Bool.false_eq_true, if_false]
            obtain h33 : σ 33 = _ := hd 7 (by decide)
            rw [h33]
            clear h33
            clear hd
            go_wp2
            exact ⟨Fr.refl _ _, trivial⟩
          · intro σ w' hR hd
            simp only [fill, Nat.reduceAdd, if_true, Bool.false_eq_true, if_false]
            obtain h33 : σ 33 = _ := hd 7 (by decide)
            rw [h33]
            clear h33
            clear hd
            go_wp2
            exact ⟨Fr.refl _ _, trivial⟩
          · intro σ w' hR hd
            simp only [fill, Nat.reduceAdd, if_true, Bool.false_eq_true, if_false]
            obtain h33 : σ 33 = _ := hd 7 (by decide)
            rw [h33]
            clear h33
            clear hd
            go_wp2
            exact ⟨Fr.refl _ _, rfl⟩
          · intro σ w' hR hd
            simp only [fill, Nat.reduceAdd, if_true, Bool.false_eq_true, if_false]
            obtain h39 : σ 39 = _ := hd 13 (by decide)
            rw [h39]
            clear h39
            clear hd
            go_wp2
            exact ⟨Fr.refl _ _, rfl⟩
        · intro σ w3 hR hG hH
          obtain h25 : σ 25 = _ := hG 14 (by decide)
          simp only [fill, Nat.reduceAdd, if_true, Bool.false_eq_true, if_false, h25]
          clear h25
          clear hG
          have HF6 := Hd.mk (HF5.out.trans ((Fr.drew (Fr.refl [] _)).trans hR))
          clear hR
          go_wp2
          go_ret
          exact ⟨by rw [HGO.out]; rfl, HF6.out⟩
      | true =>
        cases hbt : beatsB o e now with
        | false =>
          have HGO : Hd (whyC s e now = 7) := Hd.mk (by unfold whyC; rw [hl, his, HO.out, hbt]; rfl)
          have HIS := Hd.mk his
          have HBT := Hd.mk hbt
          clear his hbt
          go_wp2_with fail
          refine (live_calls _ _ _).mono ?_
          rintro r w6 ⟨rfl, rfl⟩
          rw [hl]
          clear hl e6
          go_wp2_with fail
          refine wp_region_gs { R := Fr [], R1 := Fr [], gs := [Is (.pointer (some ⟨P.pp, 0, none⟩)), Is (.pointer (some ⟨P.pp, 0, none⟩)), Is (.pointer (some ⟨P.pp, 0, none⟩)), Is (.pointer (some ⟨P.pm, 0, none⟩)), Is (.pointer (some ⟨be, 0, none⟩)), Is (.agg #[.string e.q.name, .int .u16 e.q.ty, .int .u16 e.q.cl]), Is (.bool true), Is (.bool true), Is (.agg #[.string o.q.name, .int .u16 o.q.ty, .int .u16 o.q.cl, .slice o.ra o.rn o.rc, .int .i64 o.rcode, .int .i64 o.rank, .int .u64 o.expire]), Is (.agg #[.string e.q.name, .int .u16 e.q.ty, .int .u16 e.q.cl, .slice e.ra e.rn e.rc, .int .i64 e.rcode, .int .i64 e.rank, .int .u64 e.expire]), Is (.int .u64 now), Is (.bool false), Is (.bool true), Is (.bool true), Is (.bool true)], ds := [some 26, some 27, some 28, some 29, some 30, some 31, some 32, some 33, some 34, some 35, some 36, some 37, some 38, some 39, some 25], fl := [false, false, false, false, false, false, false, false, false, false, false, false, false, false, false], hs := [], hd := [] } [false, false, false, false, false, false, false, false, false, false, false, false, false, false, false, false, false, false, false, false, false, false, false, false, false, true, true, true, true, true, true, true, true, true, true, true, true, true, true, true] (by kernel_rfl) _ (by kernel_rfl) (by kernel_rfl) (by kernel_rfl) (by kernel_rfl) rfl [] (fun _ _ _ h1 h2 => h1.trans h2) (fun _ _ h => h) (staI (staI (staI (staI (staI (staI (staI (staI (staI (staI (staI (staI (staI (staI (staI sta0))))))))))))))) sth0 (fun _ _ h => h.size) _ (Fr.refl _ _) trivial ?_ ?_
          · refine ⟨?_, ?_, ?_, ?_, ?_, ?_, ?_, ?_, ?_, ?_, ?_, ?_, ?_, ?_, ?_, trivial⟩
            · intro σ w' hR hd
              simp only [fill, Nat.reduceAdd, if_true, Bool.false_eq_true, if_false]
              clear hd
              go_wp2
              exact ⟨Fr.refl _ _, rfl⟩
            · intro σ w' hR hd
              simp only [fill, Nat.reduceAdd, if_true, Bool.false_eq_true, if_false]
              obtain h26 : σ 26 = _ := hd 0 (by decide)
              rw [h26]
              clear h26
              clear hd
              go_wp2
              exact ⟨Fr.refl _ _, rfl⟩
            · intro σ w' hR hd
              simp only [fill, Nat.reduceAdd, if_true, Bool.false_eq_true, if_false]
              obtain h27 : σ 27 = _ := hd 1 (by decide)
              rw [h27]
              clear h27
              clear hd
              go_wp2
              exact ⟨Fr.refl _ _, rfl⟩
            · intro σ w' hR hd
              simp only [fill, Nat.reduceAdd, if_true, Bool.false_eq_true, if_false]
              obtain h28 : σ 28 = _ := hd 2 (by decide)
              rw [h28]
              clear h28
              clear hd
              have d0 : w'.cell? ⟨P.pp, 0, none⟩ = some (.pointer (some ⟨P.pm, 0, none⟩)) := (HPB4.out.fr hR (by simp)).cell (i := 0) rfl
              go_wp2
              exact ⟨Fr.refl _ _, rfl⟩
            · intro σ w' hR hd
              simp only [fill, Nat.reduceAdd, if_true, Bool.false_eq_true, if_false]
              clear hd
              go_wp2
              exact ⟨Fr.refl _ _, rfl⟩
            · intro σ w' hR hd
              simp only [fill, Nat.reduceAdd, if_true, Bool.false_eq_true, if_false]
              obtain h30 : σ 30 = _ := hd 4 (by decide)
              rw [h30]
              clear h30
              clear hd
              have d0 : w'.cell? ⟨be, 0, none⟩ = some (.string e.q.name) := (HBX4.out.fr hR (by simp)).cell (i := 0) rfl
              have d1 : w'.cell? ⟨be, 1, none⟩ = some (.int .u16 e.q.ty) := (HBX4.out.fr hR (by simp)).cell (i := 1) rfl
              have d2 : w'.cell? ⟨be, 2, none⟩ = some (.int .u16 e.q.cl) := (HBX4.out.fr hR (by simp)).cell (i := 2) rfl
              go_wp2
              exact ⟨Fr.refl _ _, rfl⟩
            · intro σ w' hR hd
              simp only [fill, Nat.reduceAdd, if_true, Bool.false_eq_true, if_false]
              obtain h29 : σ 29 = _ := hd 3 (by decide)
              obtain h31 : σ 31 = _ := hd 5 (by decide)
              rw [h29, h31]
              clear h29 h31
              clear hd
              have hm4 := HMM4.out.fr hR (by simp) (by simp)
              go_wp2_with fail
              refine (has_calls hm4 e.q).mono ?_
              rintro r w4 ⟨rfl, hf0⟩
              have hf4 := Hd.mk hf0
              clear hf0
              rw [HIS.out]
              go_wp2
              exact ⟨hf4.out, rfl⟩
            · intro σ w' hR hd
              simp only [fill, Nat.reduceAdd, if_true, Bool.false_eq_true, if_false]
              obtain h32 : σ 32 = _ := hd 6 (by decide)
              rw [h32]
              clear h32
              clear hd
              go_wp2
              exact ⟨Fr.refl _ _, rfl⟩
            · intro σ w' hR hd
              simp only [fill, Nat.reduceAdd, if_true, Bool.false_eq_true, if_false]
              obtain h33 : σ 33 = _ := hd 7 (by decide)
              rw [h33]
              clear h33
              clear hd
              have d0 : w'.cell? ⟨g, 0, none⟩ = some (.string o.q.name) := (HG4.out.fr hR (by simp)).cell (i := 0) rfl
              have d1 : w'.cell? ⟨g, 1, none⟩ = some (.int .u16 o.q.ty) := (HG4.out.fr hR (by simp)).cell (i := 1) rfl
              have d2 : w'.cell? ⟨g, 2, none⟩ = some (.int .u16 o.q.cl) := (HG4.out.fr hR (by simp)).cell (i := 2) rfl
              have d3 : w'.cell? ⟨g, 3, none⟩ = some (.slice o.ra o.rn o.rc) := (HG4.out.fr hR (by simp)).cell (i := 3) rfl
              have d4 : w'.cell? ⟨g, 4, none⟩ = some (.int .i64 o.rcode) := (HG4.out.fr hR (by simp)).cell (i := 4) rfl
              have d5 : w'.cell? ⟨g, 5, none⟩ = some (.int .i64 o.rank) := (HG4.out.fr hR (by simp)).cell (i := 5) rfl
              have d6 : w'.cell? ⟨g, 6, none⟩ = some (.int .u64 o.expire) := (HG4.out.fr hR (by simp)).cell (i := 6) rfl
              go_wp2
              exact ⟨Fr.refl _ _, rfl⟩
            · intro σ w' hR hd
              simp only [fill, Nat.reduceAdd, if_true, Bool.false_eq_true, if_false]
              obtain h33 : σ 33 = _ := hd 7 (by decide)
              rw [h33]
              clear h33
              clear hd
              have d0 : w'.cell? ⟨be, 0, none⟩ = some (.string e.q.name) := (HBX4.out.fr hR (by simp)).cell (i := 0) rfl
              have d1 : w'.cell? ⟨be, 1, none⟩ = some (.int .u16 e.q.ty) := (HBX4.out.fr hR (by simp)).cell (i := 1) rfl
              have d2 : w'.cell? ⟨be, 2, none⟩ = some (.int .u16 e.q.cl) := (HBX4.out.fr hR (by simp)).cell (i := 2) rfl
              have d3 : w'.cell? ⟨be, 3, none⟩ = some (.slice e.ra e.rn e.rc) := (HBX4.out.fr hR (by simp)).cell (i := 3) rfl
              have d4 : w'.cell? ⟨be, 4, none⟩ = some (.int .i64 e.rcode) := (HBX4.out.fr hR (by simp)).cell (i := 4) rfl
              have d5 : w'.cell? ⟨be, 5, none⟩ = some (.int .i64 e.rank) := (HBX4.out.fr hR (by simp)).cell (i := 5) rfl
              have d6 : w'.cell? ⟨be, 6, none⟩ = some (.int .u64 e.expire) := (HBX4.out.fr hR (by simp)).cell (i := 6) rfl
              go_wp2
              exact ⟨Fr.refl _ _, rfl⟩
            · intro σ w' hR hd
              simp only [fill, Nat.reduceAdd, if_true, Bool.false_eq_true, if_false]
              obtain h33 : σ 33 = _ := hd 7 (by decide)
              rw [h33]
              clear h33
              clear hd
              go_wp2
              exact ⟨Fr.refl _ _, rfl⟩
            · intro σ w' hR hd
              simp only [fill, Nat.reduceAdd, if_true, Bool.false_eq_true, if_false]
              obtain h33 : σ 33 = _ := hd 7 (by decide)
              obtain h34 : σ 34 = _ := hd 8 (by decide)
              obtain h35 : σ 35 = _ := hd 9 (by decide)
              obtain h36 : σ 36 = _ := hd 10 (by decide)
              rw [h33, h34, h35, h36]
              clear h33 h34 h35 h36
              clear hd
              go_wp2_with fail
              refine (beats_calls o e now _).mono ?_
              rintro r w4 ⟨rfl, hf0⟩
              have hf4 := Hd.mk hf0
              clear hf0
              rw [HBT.out]
              go_wp2
              exact ⟨hf4.out, rfl⟩
            · intro σ w' hR hd
              simp only [fill, Nat.reduceAdd, if_true, Bool.false_eq_true, if_false]
              obtain h33 : σ 33 = _ := hd 7 (by decide)
              obtain h37 : σ 37 = _ := hd 11 (by decide)
              rw [h33, h37]
              clear h33 h37
              clear hd
              go_wp2
              exact ⟨Fr.refl _ _, rfl⟩
            · intro σ w' hR hd
              simp only [fill, Nat.reduceAdd, if_true, Bool.false_eq_true, if_false]
              obtain h33 : σ 33 = _ := hd 7 (by decide)
              obtain h38 : σ 38 = _ := hd 12 (by decide)
              rw [h33, h38]
              clear h33 h38
              clear hd
              go_wp2
              exact ⟨Fr.refl _ _, rfl⟩
            · intro σ w' hR hd
              simp only [fill, Nat.reduceAdd, if_true, Bool.false_eq_true, if_false]
              obtain h39 : σ 39 = _ := hd 13 (by decide)
              rw [h39]
              clear h39
              clear hd
              go_wp2
              exact ⟨Fr.refl _ _, rfl⟩
          · intro σ w3 hR hG hH
            obtain h25 : σ 25 = _ := hG 14 (by decide)
            simp only [fill, Nat.reduceAdd, if_true, Bool.false_eq_true, if_false, h25]
            clear h25
            clear hG
            have HF6 := Hd.mk (HF5.out.trans ((Fr.drew (Fr.refl [] _)).trans hR))
            clear hR
            go_wp2
            go_ret
            exact ⟨by rw [HGO.out]; rfl, HF6.out⟩
        | true =>
          have HGO : Hd (whyC s e now = 0) := Hd.mk (by unfold whyC; rw [hl, his, HO.out, hbt]; rfl)
          have HIS := Hd.mk his
          have HBT := Hd.mk hbt
          clear his hbt
          go_wp2_with fail
          refine (live_calls _ _ _).mono ?_
          rintro r w6 ⟨rfl, rfl⟩
          rw [hl]
          clear hl e6
          go_wp2_with fail
          refine wp_region_gs { R := Fr [], R1 := Fr [], gs := [Is (.pointer (some ⟨P.pp, 0, none⟩)), Is (.pointer (some ⟨P.pp, 0, none⟩)), Is (.pointer (some ⟨P.pp, 0, none⟩)), Is (.pointer (some ⟨P.pm, 0, none⟩)), Is (.pointer (some ⟨be, 0, none⟩)), Is (.agg #[.string e.q.name, .int .u16 e.q.ty, .int .u16 e.q.cl]), Is (.bool true), Is (.bool true), Is (.agg #[.string o.q.name, .int .u16 o.q.ty, .int .u16 o.q.cl, .slice o.ra o.rn o.rc, .int .i64 o.rcode, .int .i64 o.rank, .int .u64 o.expire]), Is (.agg #[.string e.q.name, .int .u16 e.q.ty, .int .u16 e.q.cl, .slice e.ra e.rn e.rc, .int .i64 e.rcode, .int .i64 e.rank, .int .u64 e.expire]), Is (.int .u64 now), Is (.bool true), Is (.bool false), Is (.bool false), Is (.bool false)], ds := [some 26, some 27, some 28, some 29, some 30, some 31, some 32, some 33, some 34, some 35, some 36, some 37, some 38, some 39, some 25], fl := [false, false, false, false, false, false, false, false, false, false, false, false, false, false, false], hs := [], hd := [] } [false, false, false, false, false, false, false, false, false, false, false, false, false, false, false, false, false, false, false, false, false, false, false, false, false, true, true, true, true, true, true, true, true, true, true, true, true, true, true, true] (by kernel_rfl) _ (by kernel_rfl) (by kernel_rfl) (by kernel_rfl) (by kernel_rfl) rfl [] (fun _ _ _ h1 h2 => h1.trans h2) (fun _ _ h => h) (staI (staI (staI (staI (staI (staI (staI (staI (staI (staI (staI (staI (staI (staI (staI sta0))))))))))))))) sth0 (fun _ _ h => h.size) _ (Fr.refl _ _) trivial ?_ ?_
          · refine ⟨?_, ?_, ?_, ?_, ?_, ?_, ?_, ?_, ?_, ?_, ?_, ?_, ?_, ?_, ?_, trivial⟩
            · intro σ w' hR hd
              simp only [fill, Nat.reduceAdd, if_true, Bool.false_eq_true, if_false]
              clear hd
              go_wp2
              exact ⟨Fr.refl _ _, rfl⟩
            · intro σ w' hR hd
              simp only [fill, Nat.reduceAdd, if_true, Bool.false_eq_true, if_false]
              obtain h26 : σ 26 = _ := hd 0 (by decide)
              rw [h26]
              clear h26
              clear hd
              go_wp2
              exact ⟨Fr.refl _ _, rfl⟩
            · intro σ w' hR hd
              simp only [fill, Nat.reduceAdd, if_true, Bool.false_eq_true, if_false]
              obtain h27 : σ 27 = _ := hd 1 (by decide)
              rw [h27]
              clear h27
              clear hd
              go_wp2
              exact ⟨Fr.refl _ _, rfl⟩
            · intro σ w' hR hd
              simp only [fill, Nat.reduceAdd, if_true, Bool.false_eq_true, if_false]
              obtain h28 : σ 28 = _ := hd 2 (by decide)
              rw [h28]
              clear h28
              clear hd
              have d0 : w'.cell? ⟨P.pp, 0, none⟩ = some (.pointer (some ⟨P.pm, 0, none⟩)) := (HPB4.out.fr hR (by simp)).cell (i := 0) rfl
              go_wp2
              exact ⟨Fr.refl _ _, rfl⟩
            · intro σ w' hR hd
              simp only [fill, Nat.reduceAdd, if_true, Bool.false_eq_true, if_false]
              clear hd
              go_wp2
              exact ⟨Fr.refl _ _, rfl⟩
            · intro σ w' hR hd
              simp only [fill, Nat.reduceAdd, if_true, Bool.false_eq_true, if_false]
              obtain h30 : σ 30 = _ := hd 4 (by decide)
              rw [h30]
              clear h30
              clear hd
              have d0 : w'.cell? ⟨be, 0, none⟩ = some (.string e.q.name) := (HBX4.out.fr hR (by simp)).cell (i := 0) rfl
              have d1 : w'.cell? ⟨be, 1, none⟩ = some (.int .u16 e.q.ty) := (HBX4.out.fr hR (by simp)).cell (i := 1) rfl
              have d2 : w'.cell? ⟨be, 2, none⟩ = some (.int .u16 e.q.cl) := (HBX4.out.fr hR (by simp)).cell (i := 2) rfl
              go_wp2
              exact ⟨Fr.refl _ _, rfl⟩
            · intro σ w' hR hd
              simp only [fill, Nat.reduceAdd, if_true, Bool.false_eq_true, if_false]
              obtain h29 : σ 29 = _ := hd 3 (by decide)
              obtain h31 : σ 31 = _ := hd 5 (by decide)
              rw [h29, h31]
              clear h29 h31
              clear hd
              have hm4 := HMM4.out.fr hR (by simp) (by simp)
              go_wp2_with fail
              refine (has_calls hm4 e.q).mono ?_
              rintro r w4 ⟨rfl, hf0⟩
              have hf4 := Hd.mk hf0
              clear hf0
              rw [HIS.out]
              go_wp2
              exact ⟨hf4.out, rfl⟩
            · intro σ w' hR hd
              simp only [fill, Nat.reduceAdd, if_true, Bool.false_eq_true, if_false]
              obtain h32 : σ 32 = _ := hd 6 (by decide)
              rw [h32]
              clear h32
              clear hd
              go_wp2
              exact ⟨Fr.refl _ _, rfl⟩
            · intro σ w' hR hd
              simp only [fill, Nat.reduceAdd, if_true, Bool.false_eq_true, if_false]
              obtain h33 : σ 33 = _ := hd 7 (by decide)
              rw [h33]
              clear h33
              clear hd
              have d0 : w'.cell? ⟨g, 0, none⟩ = some (.string o.q.name) := (HG4.out.fr hR (by simp)).cell (i := 0) rfl
              have d1 : w'.cell? ⟨g, 1, none⟩ = some (.int .u16 o.q.ty) := (HG4.out.fr hR (by simp)).cell (i := 1) rfl
              have d2 : w'.cell? ⟨g, 2, none⟩ = some (.int .u16 o.q.cl) := (HG4.out.fr hR (by simp)).cell (i := 2) rfl
              have d3 : w'.cell? ⟨g, 3, none⟩ = some (.slice o.ra o.rn o.rc) := (HG4.out.fr hR (by simp)).cell (i := 3) rfl
              have d4 : w'.cell? ⟨g, 4, none⟩ = some (.int .i64 o.rcode) := (HG4.out.fr hR (by simp)).cell (i := 4) rfl
              have d5 : w'.cell? ⟨g, 5, none⟩ = some (.int .i64 o.rank) := (HG4.out.fr hR (by simp)).cell (i := 5) rfl
              have d6 : w'.cell? ⟨g, 6, none⟩ = some (.int .u64 o.expire) := (HG4.out.fr hR (by simp)).cell (i := 6) rfl
              go_wp2
              exact ⟨Fr.refl _ _, rfl⟩
            · intro σ w' hR hd
              simp only [fill, Nat.reduceAdd, if_true, Bool.false_eq_true, if_false]
              obtain h33 : σ 33 = _ := hd 7 (by decide)
              rw [h33]
              clear h33
              clear hd
              have d0 : w'.cell? ⟨be, 0, none⟩ = some (.string e.q.name) := (HBX4.out.fr hR (by simp)).cell (i := 0) rfl
              have d1 : w'.cell? ⟨be, 1, none⟩ = some (.int .u16 e.q.ty) := (HBX4.out.fr hR (by simp)).cell (i := 1) rfl
              have d2 : w'.cell? ⟨be, 2, none⟩ = some (.int .u16 e.q.cl) := (HBX4.out.fr hR (by simp)).cell (i := 2) rfl
              have d3 : w'.cell? ⟨be, 3, none⟩ = some (.slice e.ra e.rn e.rc) := (HBX4.out.fr hR (by simp)).cell (i := 3) rfl
              have d4 : w'.cell? ⟨be, 4, none⟩ = some (.int .i64 e.rcode) := (HBX4.out.fr hR (by simp)).cell (i := 4) rfl
              have d5 : w'.cell? ⟨be, 5, none⟩ = some (.int .i64 e.rank) := (HBX4.out.fr hR (by simp)).cell (i := 5) rfl
              have d6 : w'.cell? ⟨be, 6, none⟩ = some (.int .u64 e.expire) := (HBX4.out.fr hR (by simp)).cell (i := 6) rfl
              go_wp2
              exact ⟨Fr.refl _ _, rfl⟩
            · intro σ w' hR hd
              simp only [fill, Nat.reduceAdd, if_true, Bool.false_eq_true, if_false]
              obtain h33 : σ 33 = _ := hd 7 (by decide)
              rw [h33]
              clear h33
              clear hd
              go_wp2
              exact ⟨Fr.refl _ _, rfl⟩
            · intro σ w' hR hd
              simp only [fill, Nat.reduceAdd, if_true, Bool.false_eq_true, if_false]
              obtain h33 : σ 33 = _ := hd 7 (by decide)
              obtain h34 : σ 34 = _ := hd 8 (by decide)
              obtain h35 : σ 35 = _ := hd 9 (by decide)
              obtain h36 : σ 36 = _ := hd 10 (by decide)
              rw [h33, h34, h35, h36]
              clear h33 h34 h35 h36
              clear hd
              go_wp2_with fail
              refine (beats_calls o e now _).mono ?_
              rintro r w4 ⟨rfl, hf0⟩
              have hf4 := Hd.mk hf0
              clear hf0
              rw [HBT.out]
              go_wp2
              exact ⟨hf4.out, rfl⟩
            · intro σ w' hR hd
              simp only [fill, Nat.reduceAdd, if_true, Bool.false_eq_true, if_false]
              obtain h33 : σ 33 = _ := hd 7 (by decide)
              obtain h37 : σ 37 = _ := hd 11 (by decide)
              rw [h33, h37]
              clear h33 h37
              clear hd
              go_wp2
              exact ⟨Fr.refl _ _, rfl⟩
            · intro σ w' hR hd
              simp only [fill, Nat.reduceAdd, if_true, Bool.false_eq_true, if_false]
              obtain h33 : σ 33 = _ := hd 7 (by decide)
              obtain h38 : σ 38 = _ := hd 12 (by decide)
              rw [h33, h38]
              clear h33 h38
              clear hd
              go_wp2
              exact ⟨Fr.refl _ _, rfl⟩
            · intro σ w' hR hd
              simp only [fill, Nat.reduceAdd, if_true, Bool.false_eq_true, if_false]
              obtain h39 : σ 39 = _ := hd 13 (by decide)
              rw [h39]
              clear h39
              clear hd
              go_wp2
              exact ⟨Fr.refl _ _, rfl⟩
          · intro σ w3 hR hG hH
            obtain h25 : σ 25 = _ := hG 14 (by decide)
            simp only [fill, Nat.reduceAdd, if_true, Bool.false_eq_true, if_false, h25]
            clear h25
            clear hG
            have HF6 := Hd.mk (HF5.out.trans ((Fr.drew (Fr.refl [] _)).trans hR))
            clear hR
            go_wp2
            go_ret
            exact ⟨by rw [HGO.out]; rfl, HF6.out⟩
end Go.Proofs.Ytbmejolmbfmdiaa
