import Derived.Test.YtbmejolmbfmdiaaH5
namespace Go.Proofs.Ytbmejolmbfmdiaa
open Go Go.RowKit Go.Lib Go.Proofs.MapL

theorem blk2_of {w w' : World} {T1 T2 : Nat} {c1 c2 : List Value} (h : w' = (w.alloc (.cells c1.toArray T1)).alloc (.cells c2.toArray T2)) : Blk w' w.heap.size T1 c1 ∧ Blk w' (w.heap.size + 1) T2 c2 ∧ Fr [] w w' := by
  subst h
  refine ⟨(Blk.new _ _ _).alloc _, ?_, ((Fr.refl [] w).alloc _).alloc _⟩
  have h0 := Blk.new (w.alloc (.cells c1.toArray T1)) T2 c2
  simp only [World.size_alloc] at h0
  exact h0
def hasL (L : List En) : List Qn → Bool
  | [] => false
  | q :: _ => (findE L q).isSome
/-- Questions may go to make room. -/
def mayB (s : Ps) (l : List Qn) (now : Int) : Bool := if dueN s.E now = 0 then decide (l.length = 1) && hasL s.L l else decide (l.length = dueN s.E now) && eachB (goB s now) l
set_option maxRecDepth 100000 in
set_option maxHeartbeats 8000000 in
theorem may_calls {w : World} {P : Pt} {s : Ps} (h : PtAt w P s) (hE : s.E.length < 1000000) {A : Option Addr} {n c : Nat} {l : List Qn} (hs : SlIs Qn.c 3 w A n l) (now : Int) : Calls Try.prog 22 #[.pointer (some ⟨P.pp, 0, none⟩), .slice A n c, .int .u64 now] w fun r w' => r = .returned (.bool (mayB s l now)) ∧ Fr [] w w' := by
  obtain ⟨d, hd⟩ : ∃ d, dueN s.E now = d := ⟨_, rfl⟩
  have hdl : d ≤ s.E.length := by rw [← hd]; exact dueN_le _ _
  have HD := Hd.mk hd
  have HS := Hd.mk hs
  have H := Hd.mk h
  have HE := Hd.mk hE
  have hn := hs.n
  subst hn
  have hle : (l.length : Int) ≤ 9223372036854775807 := by have := hs.le; omega
  have HLE := Hd.mk hle
  clear hs h hd hE hle
  go_enter Try.func22, Try.ntmps22
  go_upto_region 1 with (fail)
  refine wp_name ?_; intro w1 hw1
  obtain ⟨hb3, hb5, hf1⟩ := blk2_of (T1 := 52) (T2 := 30) (c1 := [.pointer (some ⟨P.pp, 0, none⟩)]) (c2 := [.int .u64 now]) hw1
  clear hw1
  obtain ⟨b3, hb3e⟩ : ∃ p, w.heap.size = p := ⟨_, rfl⟩
  rw [hb3e] at hb3 hb5 ⊢
  obtain ⟨b5, hb5e⟩ : ∃ p, b3 + 1 = p := ⟨_, rfl⟩
  rw [hb5e] at hb5 ⊢
  have d0 : w1.cell? ⟨b3, 0, none⟩ = some (.pointer (some ⟨P.pp, 0, none⟩)) := hb3.cell (i := 0) rfl
  have d1 : w1.cell? ⟨b5, 0, none⟩ = some (.int .u64 now) := hb5.cell (i := 0) rfl
  have HF1 := Hd.mk hf1
  have HB3 := Hd.mk hb3
  have HB5 := Hd.mk hb5
  clear hb3 hb5 hf1 hb3e hb5e
  go_wp2_with fail
  refine (pdue_calls (H.out.fr0 HF1.out) HE.out now).mono ?_
  rintro r w2 ⟨rfl, hf2⟩
  rw [HD.out]
  have HF2 := Hd.mk (HF1.out.trans hf2)
  have HB3 := Hd.mk (HB3.out.fr hf2 (by simp))
  have HB5 := Hd.mk (HB5.out.fr hf2 (by simp))
  have HS2 := Hd.mk (HS.out.fr HF2.out)
  clear hf2 d0 d1 HS HF1
  have HDL := Hd.mk hdl
  clear hdl
  by_cases hz : (d : Int) = 0
  · have HZ : Hd (dueN s.E now = 0) := Hd.mk (by rw [HD.out]; omega)
    by_cases h1 : l.length = 1
    · obtain ⟨q, rfl⟩ := List.length_eq_one_iff.1 h1
      obtain ⟨b, off, rfl, hb, hc⟩ := HS2.out.row (by simp)
      clear h1
      have hc0 := hc 0 (by simp) 0 _ rfl
      have hc1 := hc 0 (by simp) 1 _ rfl
      have hc2 := hc 0 (by simp) 2 _ rfl
      simp only [List.getElem_cons_zero, Nat.zero_mul, Nat.add_zero] at hc0 hc1 hc2
      have HC : Hd (w2.drew.cell? ⟨b, off, none⟩ = some (.string q.name) ∧ w2.drew.cell? ⟨b, off + 1, none⟩ = some (.int .u16 q.ty) ∧ w2.drew.cell? ⟨b, off + 2, none⟩ = some (.int .u16 q.cl)) := Hd.mk ⟨hc0, hc1, hc2⟩
      clear hc hc0 hc1 hc2 hb
      have H2 := H.out.fr0 HF2.out
      have HPB : Hd (Blk w2.drew P.pp 57 [.pointer (some ⟨P.pm, 0, none⟩), .map (some P.be)]) := Hd.mk H2.blk.drew
      have HB3 := Hd.mk HB3.out.drew
      have HMM : Hd (MAt w2.drew P.pm P.bm P.room s.L) := Hd.mk (H2.m.fr ((Fr.refl [] w2).drew) (by simp) (by simp))
      clear H2
      cases his : (findE s.L q).isSome with
      | false =>
        have HGO : Hd (mayB s [q] now = false) := Hd.mk (by unfold mayB; rw [if_pos HZ.out]; simp [hasL, his])
        have HIS := Hd.mk his
        clear his
        go_wp2_with fail
        refine wp_region_gs { R := Fr [], R1 := Fr [], gs := [Is (.slice (some ⟨b, off, none⟩) 1 c), Is (.int .i64 1), Is (.bool true), Is (.bool true), Is (.pointer (some ⟨P.pp, 0, none⟩)), Is (.pointer (some ⟨P.pp, 0, none⟩)), Is (.pointer (some ⟨P.pp, 0, none⟩)), Is (.pointer (some ⟨P.pm, 0, none⟩)), Is (.slice (some ⟨b, off, none⟩) 1 c), Is (.pointer (some ⟨b, off, none⟩)), Is (.agg #[.string q.name, .int .u16 q.ty, .int .u16 q.cl]), Is (.bool false), Is (.bool false), Is (.bool false)], ds := [some 13, some 14, some 15, some 16, some 17, some 18, some 19, some 20, some 21, some 22, some 23, some 24, some 25, some 6], fl := [false, false, false, false, false, false, false, false, false, false, false, false, false, false], hs := [], hd := [] } [false, false, false, false, false, false, true, false, false, false, false, false, false, true, true, true, true, true, true, true, true, true, true, true, true, true, false, false, false, false, false, false, false, false, false] (by kernel_rfl) _ (by kernel_rfl) (by kernel_rfl) (by kernel_rfl) (by kernel_rfl) rfl [] (fun _ _ _ h1 h2 => h1.trans h2) (fun _ _ h => h) (staI (staI (staI (staI (staI (staI (staI (staI (staI (staI (staI (staI (staI (staI sta0)))))))))))))) sth0 (fun _ _ h => h.size) _ (Fr.refl _ _) trivial ?_ ?_
        · refine ⟨?_, ?_, ?_, ?_, ?_, ?_, ?_, ?_, ?_, ?_, ?_, ?_, ?_, ?_, trivial⟩
          · intro σ w' hR hd
            simp only [fill, Nat.reduceAdd, if_true, Bool.false_eq_true, if_false]
            clear hd
            go_wp2
            exact ⟨Fr.refl _ _, rfl⟩
          · intro σ w' hR hd
            simp only [fill, Nat.reduceAdd, if_true, Bool.false_eq_true, if_false]
            obtain h13 : σ 13 = _ := hd 0 (by decide)
            rw [h13]
            clear h13
            clear hd
            go_wp2
            exact ⟨Fr.refl _ _, rfl⟩
          · intro σ w' hR hd
            simp only [fill, Nat.reduceAdd, if_true, Bool.false_eq_true, if_false]
            obtain h14 : σ 14 = _ := hd 1 (by decide)
            rw [h14]
            clear h14
            clear hd
            go_wp2
            exact ⟨Fr.refl _ _, rfl⟩
          · intro σ w' hR hd
            simp only [fill, Nat.reduceAdd, if_true, Bool.false_eq_true, if_false]
            obtain h15 : σ 15 = _ := hd 2 (by decide)
            rw [h15]
            clear h15
            clear hd
            go_wp2
            exact ⟨Fr.refl _ _, rfl⟩
          · intro σ w' hR hd
            simp only [fill, Nat.reduceAdd, if_true, Bool.false_eq_true, if_false]
            obtain h16 : σ 16 = _ := hd 3 (by decide)
            rw [h16]
            clear h16
            clear hd
            have d0 : w'.cell? ⟨b3, 0, none⟩ = some (.pointer (some ⟨P.pp, 0, none⟩)) := (HB3.out.fr hR (by simp)).cell (i := 0) rfl
            go_wp2
            exact ⟨Fr.refl _ _, rfl⟩
          · intro σ w' hR hd
            simp only [fill, Nat.reduceAdd, if_true, Bool.false_eq_true, if_false]
            obtain h16 : σ 16 = _ := hd 3 (by decide)
            obtain h17 : σ 17 = _ := hd 4 (by decide)
            rw [h16, h17]
            clear h16 h17
            clear hd
            go_wp2
            exact ⟨Fr.refl _ _, rfl⟩
          · intro σ w' hR hd
            simp only [fill, Nat.reduceAdd, if_true, Bool.false_eq_true, if_false]
            obtain h16 : σ 16 = _ := hd 3 (by decide)
            obtain h18 : σ 18 = _ := hd 5 (by decide)
            rw [h16, h18]
            clear h16 h18
            clear hd
            go_wp2
            exact ⟨Fr.refl _ _, rfl⟩
          · intro σ w' hR hd
            simp only [fill, Nat.reduceAdd, if_true, Bool.false_eq_true, if_false]
            obtain h16 : σ 16 = _ := hd 3 (by decide)
            obtain h19 : σ 19 = _ := hd 6 (by decide)
            rw [h16, h19]
            clear h16 h19
            clear hd
            have d0 : w'.cell? ⟨P.pp, 0, none⟩ = some (.pointer (some ⟨P.pm, 0, none⟩)) := (HPB.out.fr hR (by simp)).cell (i := 0) rfl
            go_wp2
            exact ⟨Fr.refl _ _, rfl⟩
          · intro σ w' hR hd
            simp only [fill, Nat.reduceAdd, if_true, Bool.false_eq_true, if_false]
            obtain h16 : σ 16 = _ := hd 3 (by decide)
            rw [h16]
            clear h16
            clear hd
            go_wp2
            exact ⟨Fr.refl _ _, rfl⟩
          · intro σ w' hR hd
            simp only [fill, Nat.reduceAdd, if_true, Bool.false_eq_true, if_false]
            obtain h16 : σ 16 = _ := hd 3 (by decide)
            obtain h21 : σ 21 = _ := hd 8 (by decide)
            rw [h16, h21]
            clear h16 h21
            clear hd
            go_wp2
            exact ⟨Fr.refl _ _, rfl⟩
          · intro σ w' hR hd
            simp only [fill, Nat.reduceAdd, if_true, Bool.false_eq_true, if_false]
            obtain h16 : σ 16 = _ := hd 3 (by decide)
            obtain h22 : σ 22 = _ := hd 9 (by decide)
            rw [h16, h22]
            clear h16 h22
            clear hd
            have d0 : w'.cell? ⟨b, off, none⟩ = some (.string q.name) := hR.cell HC.out.1 (by simp)
            have d1 : w'.cell? ⟨b, off + 1, none⟩ = some (.int .u16 q.ty) := hR.cell HC.out.2.1 (by simp)
            have d2 : w'.cell? ⟨b, off + 2, none⟩ = some (.int .u16 q.cl) := hR.cell HC.out.2.2 (by simp)
            go_wp2
            exact ⟨Fr.refl _ _, rfl⟩
          · intro σ w' hR hd
            simp only [fill, Nat.reduceAdd, if_true, Bool.false_eq_true, if_false]
            obtain h16 : σ 16 = _ := hd 3 (by decide)
            obtain h20 : σ 20 = _ := hd 7 (by decide)
            obtain h23 : σ 23 = _ := hd 10 (by decide)
            rw [h16, h20, h23]
            clear h16 h20 h23
            clear hd
            have hm4 := HMM.out.fr hR (by simp) (by simp)
            go_wp2_with fail
            refine (has_calls hm4 q).mono ?_
            rintro r w4 ⟨rfl, hf0⟩
            have hf4 := Hd.mk hf0
            clear hf0
            rw [HIS.out]
            go_wp2
            exact ⟨hf4.out, rfl⟩
          · intro σ w' hR hd
            simp only [fill, Nat.reduceAdd, if_true, Bool.false_eq_true, if_false]
            obtain h16 : σ 16 = _ := hd 3 (by decide)
            obtain h24 : σ 24 = _ := hd 11 (by decide)
            rw [h16, h24]
            clear h16 h24
            clear hd
            go_wp2
            exact ⟨Fr.refl _ _, rfl⟩
          · intro σ w' hR hd
            simp only [fill, Nat.reduceAdd, if_true, Bool.false_eq_true, if_false]
            obtain h25 : σ 25 = _ := hd 12 (by decide)
            rw [h25]
            clear h25
            clear hd
            go_wp2
            exact ⟨Fr.refl _ _, rfl⟩
        · intro σ w3 hR hG hH
          obtain h6 : σ 6 = _ := hG 13 (by decide)
          simp only [fill, Nat.reduceAdd, if_true, Bool.false_eq_true, if_false, h6]
          clear h6
          clear hG
          go_wp2
          go_ret
          exact ⟨by rw [HGO.out]; rfl, HF2.out.trans ((Fr.drew (Fr.refl [] _)).trans hR)⟩
      | true =>
        have HGO : Hd (mayB s [q] now = true) := Hd.mk (by unfold mayB; rw [if_pos HZ.out]; simp [hasL, his])
        have HIS := Hd.mk his
        clear his
        go_wp2_with fail
        refine wp_region_gs { R := Fr [], R1 := Fr [], gs := [Is (.slice (some ⟨b, off, none⟩) 1 c), Is (.int .i64 1), Is (.bool true), Is (.bool true), Is (.pointer (some ⟨P.pp, 0, none⟩)), Is (.pointer (some ⟨P.pp, 0, none⟩)), Is (.pointer (some ⟨P.pp, 0, none⟩)), Is (.pointer (some ⟨P.pm, 0, none⟩)), Is (.slice (some ⟨b, off, none⟩) 1 c), Is (.pointer (some ⟨b, off, none⟩)), Is (.agg #[.string q.name, .int .u16 q.ty, .int .u16 q.cl]), Is (.bool true), Is (.bool true), Is (.bool true)], ds := [some 13, some 14, some 15, some 16, some 17, some 18, some 19, some 20, some 21, some 22, some 23, some 24, some 25, some 6], fl := [false, false, false, false, false, false, false, false, false, false, false, false, false, false], hs := [], hd := [] } [false, false, false, false, false, false, true, false, false, false, false, false, false, true, true, true, true, true, true, true, true, true, true, true, true, true, false, false, false, false, false, false, false, false, false] (by kernel_rfl) _ (by kernel_rfl) (by kernel_rfl) (by kernel_rfl) (by kernel_rfl) rfl [] (fun _ _ _ h1 h2 => h1.trans h2) (fun _ _ h => h) (staI (staI (staI (staI (staI (staI (staI (staI (staI (staI (staI (staI (staI (staI sta0)))))))))))))) sth0 (fun _ _ h => h.size) _ (Fr.refl _ _) trivial ?_ ?_
        · refine ⟨?_, ?_, ?_, ?_, ?_, ?_, ?_, ?_, ?_, ?_, ?_, ?_, ?_, ?_, trivial⟩
          · intro σ w' hR hd
            simp only [fill, Nat.reduceAdd, if_true, Bool.false_eq_true, if_false]
            clear hd
            go_wp2
            exact ⟨Fr.refl _ _, rfl⟩
          · intro σ w' hR hd
            simp only [fill, Nat.reduceAdd, if_true, Bool.false_eq_true, if_false]
            obtain h13 : σ 13 = _ := hd 0 (by decide)
            rw [h13]
            clear h13
            clear hd
            go_wp2
            exact ⟨Fr.refl _ _, rfl⟩
          · intro σ w' hR hd
            simp only [fill, Nat.reduceAdd, if_true, Bool.false_eq_true, if_false]
            obtain h14 : σ 14 = _ := hd 1 (by decide)
            rw [h14]
            clear h14
            clear hd
            go_wp2
            exact ⟨Fr.refl _ _, rfl⟩
          · intro σ w' hR hd
            simp only [fill, Nat.reduceAdd, if_true, Bool.false_eq_true, if_false]
            obtain h15 : σ 15 = _ := hd 2 (by decide)
            rw [h15]
            clear h15
            clear hd
            go_wp2
            exact ⟨Fr.refl _ _, rfl⟩
          · intro σ w' hR hd
            simp only [fill, Nat.reduceAdd, if_true, Bool.false_eq_true, if_false]
            obtain h16 : σ 16 = _ := hd 3 (by decide)
            rw [h16]
            clear h16
            clear hd
            have d0 : w'.cell? ⟨b3, 0, none⟩ = some (.pointer (some ⟨P.pp, 0, none⟩)) := (HB3.out.fr hR (by simp)).cell (i := 0) rfl
            go_wp2
            exact ⟨Fr.refl _ _, rfl⟩
          · intro σ w' hR hd
            simp only [fill, Nat.reduceAdd, if_true, Bool.false_eq_true, if_false]
            obtain h16 : σ 16 = _ := hd 3 (by decide)
            obtain h17 : σ 17 = _ := hd 4 (by decide)
            rw [h16, h17]
            clear h16 h17
            clear hd
            go_wp2
            exact ⟨Fr.refl _ _, rfl⟩
          · intro σ w' hR hd
            simp only [fill, Nat.reduceAdd, if_true, Bool.false_eq_true, if_false]
            obtain h16 : σ 16 = _ := hd 3 (by decide)
            obtain h18 : σ 18 = _ := hd 5 (by decide)
            rw [h16, h18]
            clear h16 h18
            clear hd
            go_wp2
            exact ⟨Fr.refl _ _, rfl⟩
          · intro σ w' hR hd
            simp only [fill, Nat.reduceAdd, if_true, Bool.false_eq_true, if_false]
            obtain h16 : σ 16 = _ := hd 3 (by decide)
            obtain h19 : σ 19 = _ := hd 6 (by decide)
            rw [h16, h19]
            clear h16 h19
            clear hd
            have d0 : w'.cell? ⟨P.pp, 0, none⟩ = some (.pointer (some ⟨P.pm, 0, none⟩)) := (HPB.out.fr hR (by simp)).cell (i := 0) rfl
            go_wp2
            exact ⟨Fr.refl _ _, rfl⟩
          · intro σ w' hR hd
            simp only [fill, Nat.reduceAdd, if_true, Bool.false_eq_true, if_false]
            obtain h16 : σ 16 = _ := hd 3 (by decide)
            rw [h16]
            clear h16
            clear hd
            go_wp2
            exact ⟨Fr.refl _ _, rfl⟩
          · intro σ w' hR hd
            simp only [fill, Nat.reduceAdd, if_true, Bool.false_eq_true, if_false]
            obtain h16 : σ 16 = _ := hd 3 (by decide)
            obtain h21 : σ 21 = _ := hd 8 (by decide)
            rw [h16, h21]
            clear h16 h21
            clear hd
            go_wp2
            exact ⟨Fr.refl _ _, rfl⟩
          · intro σ w' hR hd
            simp only [fill, Nat.reduceAdd, if_true, Bool.false_eq_true, if_false]
            obtain h16 : σ 16 = _ := hd 3 (by decide)
            obtain h22 : σ 22 = _ := hd 9 (by decide)
            rw [h16, h22]
            clear h16 h22
            clear hd
            have d0 : w'.cell? ⟨b, off, none⟩ = some (.string q.name) := hR.cell HC.out.1 (by simp)
            have d1 : w'.cell? ⟨b, off + 1, none⟩ = some (.int .u16 q.ty) := hR.cell HC.out.2.1 (by simp)
            have d2 : w'.cell? ⟨b, off + 2, none⟩ = some (.int .u16 q.cl) := hR.cell HC.out.2.2 (by simp)
            go_wp2
            exact ⟨Fr.refl _ _, rfl⟩
          · intro σ w' hR hd
            simp only [fill, Nat.reduceAdd, if_true, Bool.false_eq_true, if_false]
            obtain h16 : σ 16 = _ := hd 3 (by decide)
            obtain h20 : σ 20 = _ := hd 7 (by decide)
            obtain h23 : σ 23 = _ := hd 10 (by decide)
            rw [h16, h20, h23]
            clear h16 h20 h23
            clear hd
            have hm4 := HMM.out.fr hR (by simp) (by simp)
            go_wp2_with fail
            refine (has_calls hm4 q).mono ?_
            rintro r w4 ⟨rfl, hf0⟩
            have hf4 := Hd.mk hf0
            clear hf0
            rw [HIS.out]
            go_wp2
            exact ⟨hf4.out, rfl⟩
          · intro σ w' hR hd
            simp only [fill, Nat.reduceAdd, if_true, Bool.false_eq_true, if_false]
            obtain h16 : σ 16 = _ := hd 3 (by decide)
            obtain h24 : σ 24 = _ := hd 11 (by decide)
            rw [h16, h24]
            clear h16 h24
            clear hd
            go_wp2
            exact ⟨Fr.refl _ _, rfl⟩
          · intro σ w' hR hd
            simp only [fill, Nat.reduceAdd, if_true, Bool.false_eq_true, if_false]
            obtain h25 : σ 25 = _ := hd 12 (by decide)
            rw [h25]
            clear h25
            clear hd
            go_wp2
            exact ⟨Fr.refl _ _, rfl⟩
        · intro σ w3 hR hG hH
          obtain h6 : σ 6 = _ := hG 13 (by decide)
          simp only [fill, Nat.reduceAdd, if_true, Bool.false_eq_true, if_false, h6]
          clear h6
          clear hG
          go_wp2
          go_ret
          exact ⟨by rw [HGO.out]; rfl, HF2.out.trans ((Fr.drew (Fr.refl [] _)).trans hR)⟩
    · have HGO : Hd (mayB s l now = false) := Hd.mk (by unfold mayB; rw [if_pos HZ.out, decide_eq_false h1]; rfl)
      have HN1 : Hd (¬ (l.length : Int) = 1) := Hd.mk (by omega)
      clear h1
      go_wp2_with fail
      refine wp_region_gs { R := Fr [], R1 := Fr [], gs := [Is (.slice A l.length c), Is (.int .i64 l.length), Is (.bool false), Is (.bool false), No, No, No, No, No, No, No, No, Is (.bool false), Is (.bool false)], ds := [some 13, some 14, some 15, some 16, some 17, some 18, some 19, some 20, some 21, some 22, some 23, some 24, some 25, some 6], fl := [false, false, false, false, false, false, false, false, false, false, false, false, false, false], hs := [], hd := [] } [false, false, false, false, false, false, true, false, false, false, false, false, false, true, true, true, true, true, true, true, true, true, true, true, true, true, false, false, false, false, false, false, false, false, false] (by kernel_rfl) _ (by kernel_rfl) (by kernel_rfl) (by kernel_rfl) (by kernel_rfl) rfl [] (fun _ _ _ h1 h2 => h1.trans h2) (fun _ _ h => h) (staI (staI (staI (staI (staN (staN (staN (staN (staN (staN (staN (staN (staI (staI sta0)))))))))))))) sth0 (fun _ _ h => h.size) _ (Fr.refl _ _) trivial ?_ ?_
      · refine ⟨?_, ?_, ?_, ?_, ?_, ?_, ?_, ?_, ?_, ?_, ?_, ?_, ?_, ?_, trivial⟩
        · intro σ w' hR hd
          simp only [fill, Nat.reduceAdd, if_true, Bool.false_eq_true, if_false]
          clear hd
          go_wp2
          exact ⟨Fr.refl _ _, rfl⟩
        · intro σ w' hR hd
          simp only [fill, Nat.reduceAdd, if_true, Bool.false_eq_true, if_false]
          obtain h13 : σ 13 = _ := hd 0 (by decide)
          rw [h13]
          clear h13
          clear hd
          go_wp2
          exact ⟨Fr.refl _ _, rfl⟩
        · intro σ w' hR hd
          simp only [fill, Nat.reduceAdd, if_true, Bool.false_eq_true, if_false]
          obtain h14 : σ 14 = _ := hd 1 (by decide)
          rw [h14]
          clear h14
          clear hd
          go_wp2
          exact ⟨Fr.refl _ _, by show Value.bool _ = Value.bool false; rw [beq_eq_false_iff_ne.2 HN1.out]⟩
        · intro σ w' hR hd
          simp only [fill, Nat.reduceAdd, if_true, Bool.false_eq_true, if_false]
          obtain h15 : σ 15 = _ := hd 2 (by decide)
          rw [h15]
          clear h15
          clear hd
          go_wp2
          exact ⟨Fr.refl _ _, rfl⟩
        · intro σ w' hR hd
          simp only [fill, Nat.reduceAdd, if_true, Bool.false_eq_true, if_false]
          obtain h16 : σ 16 = _ := hd 3 (by decide)
          rw [h16]
          clear h16
          clear hd
          go_wp2
          exact ⟨Fr.refl _ _, trivial⟩
        · intro σ w' hR hd
          simp only [fill, Nat.reduceAdd, if_true, Bool.false_eq_true, if_false]
          obtain h16 : σ 16 = _ := hd 3 (by decide)
          rw [h16]
          clear h16
          clear hd
          go_wp2
          exact ⟨Fr.refl _ _, trivial⟩
        · intro σ w' hR hd
          simp only [fill, Nat.reduceAdd, if_true, Bool.false_eq_true, if_false]
          obtain h16 : σ 16 = _ := hd 3 (by decide)
          rw [h16]
          clear h16
          clear hd
          go_wp2
          exact ⟨Fr.refl _ _, trivial⟩
        · intro σ w' hR hd
          simp only [fill, Nat.reduceAdd, if_true, Bool.false_eq_true, if_false]
          obtain h16 : σ 16 = _ := hd 3 (by decide)
          rw [h16]
          clear h16
          clear hd
          go_wp2
          exact ⟨Fr.refl _ _, trivial⟩
        · intro σ w' hR hd
          simp only [fill, Nat.reduceAdd, if_true, Bool.false_eq_true, if_false]
          obtain h16 : σ 16 = _ := hd 3 (by decide)
          rw [h16]
          clear h16
          clear hd
          go_wp2
          exact ⟨Fr.refl _ _, trivial⟩
        · intro σ w' hR hd
          simp only [fill, Nat.reduceAdd, if_true, Bool.false_eq_true, if_false]
          obtain h16 : σ 16 = _ := hd 3 (by decide)
          rw [h16]
          clear h16
          clear hd
          go_wp2
          exact ⟨Fr.refl _ _, trivial⟩
        · intro σ w' hR hd
          simp only [fill, Nat.reduceAdd, if_true, Bool.false_eq_true, if_false]
          obtain h16 : σ 16 = _ := hd 3 (by decide)
          rw [h16]
          clear h16
          clear hd
          go_wp2
          exact ⟨Fr.refl _ _, trivial⟩
        · intro σ w' hR hd
          simp only [fill, Nat.reduceAdd, if_true, Bool.false_eq_true, if_false]
          obtain h16 : σ 16 = _ := hd 3 (by decide)
          rw [h16]
          clear h16
          clear hd
          go_wp2
          exact ⟨Fr.refl _ _, trivial⟩
        · intro σ w' hR hd
          simp only [fill, Nat.reduceAdd, if_true, Bool.false_eq_true, if_false]
          obtain h16 : σ 16 = _ := hd 3 (by decide)
          rw [h16]
          clear h16
          clear hd
          go_wp2
          exact ⟨Fr.refl _ _, rfl⟩
        · intro σ w' hR hd
          simp only [fill, Nat.reduceAdd, if_true, Bool.false_eq_true, if_false]
          obtain h25 : σ 25 = _ := hd 12 (by decide)
          rw [h25]
          clear h25
          clear hd
          go_wp2
          exact ⟨Fr.refl _ _, rfl⟩
      · intro σ w3 hR hG hH
        obtain h6 : σ 6 = _ := hG 13 (by decide)
        simp only [fill, Nat.reduceAdd, if_true, Bool.false_eq_true, if_false, h6]
        clear h6
        clear hG
        go_wp2
        go_ret
        exact ⟨by rw [HGO.out]; rfl, HF2.out.trans ((Fr.drew (Fr.refl [] _)).trans hR)⟩
  · have HZ : Hd (¬ dueN s.E now = 0) := Hd.mk (by rw [HD.out]; omega)
    by_cases h1 : (l.length : Int) = d
    · have HGO : Hd (mayB s l now = eachB (goB s now) l) := Hd.mk (by unfold mayB; rw [if_neg HZ.out, HD.out, decide_eq_true (by omega)]; rfl)
      go_wp2_with fail
      refine (each34_calls (now := now) (H.out.fr0 HF2.out) HB3.out HB5.out HS2.out).mono ?_
      rintro r w3 ⟨rfl, hf3⟩
      have HF3 := Hd.mk (HF2.out.trans hf3)
      clear hf3
      rw [← HGO.out]
      go_wp2
      go_ret
      exact ⟨rfl, HF3.out⟩
    · have HGO : Hd (mayB s l now = false) := Hd.mk (by unfold mayB; rw [if_neg HZ.out, HD.out, decide_eq_false (by omega)]; rfl)
      go_wp2
      go_ret
      exact ⟨by rw [HGO.out]; rfl, HF2.out⟩
end Go.Proofs.Ytbmejolmbfmdiaa
