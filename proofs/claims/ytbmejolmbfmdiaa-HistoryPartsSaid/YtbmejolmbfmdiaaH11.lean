import Derived.Test.YtbmejolmbfmdiaaH10
namespace Go.Proofs.Ytbmejolmbfmdiaa
open Go Go.RowKit Go.Lib Go.Proofs.MapL

/-- There is only room if something goes. -/
def roomB (s : Ps) (room : Int) (x : Ev) : Bool := decide ((s.L.length : Int) ≥ room) && !(findE s.L x.de.q).isSome && liveB x.de.expire x.now
def insOkB (ρ : En → List Rr) (s : Ps) (room : Int) (x : Ev) : Bool := bareB ρ x && (if roomB s room x then decide (x.err = 0) && mayB s x.G x.now else decide (x.err = whyC s x.de x.now) && decide (x.G.length = 0))
def insPut (s : Ps) (room : Int) (x : Ev) : Ps := ⟨insL s.L room x.de x.now, if insC s.L room x.de x.now = 0 then putL s.E x.de.q x.de.expire else s.E⟩
def insS (ρ : En → List Rr) (s : Ps) (room : Int) (x : Ev) : Ps := if insOkB ρ s room x then insPut (dropAll s x.G) room x else s
theorem dropAll_len (s : Ps) (l : List Qn) : (dropAll s l).L.length ≤ s.L.length ∧ (dropAll s l).E.length ≤ s.E.length := by
  induction l generalizing s with
  | nil => exact ⟨Nat.le_refl _, Nat.le_refl _⟩
  | cons q l ih =>
    have h := ih (dropS s q)
    have h1 : (dropS s q).L.length ≤ s.L.length := List.length_filter_le _ _
    have h2 : (dropS s q).E.length ≤ s.E.length := List.length_filter_le _ _
    exact ⟨Nat.le_trans h.1 h1, Nat.le_trans h.2 h2⟩
theorem ins_no {ρ : En → List Rr} {s : Ps} {m : Int} {x : Ev} (h : insOkB ρ s m x = false) : insOkB ρ s m x = false ∧ insS ρ s m x = s := ⟨h, by unfold insS; rw [h]; rfl⟩
theorem ins_yes {ρ : En → List Rr} {s : Ps} {m : Int} {x : Ev} (h : insOkB ρ s m x = true) : insOkB ρ s m x = true ∧ insS ρ s m x = insPut (dropAll s x.G) m x := ⟨h, by unfold insS; rw [h]; rfl⟩
set_option maxRecDepth 100000 in
set_option maxHeartbeats 8000000 in
theorem hins_calls {w0 w : World} (h0 : Fr [] w0 w) {P : Pt} (hP : ∀ k ∈ P.all, w0.heap.size ≤ k) {s : Ps} (h : PtAt w P s) (hL : s.L.length < 1000000) (hE : s.E.length < 1000000) {x : Ev} (hx : EvOK w0 x) : Calls Try.prog 14 #[.pointer (some ⟨P.pp, 0, none⟩), x.v] w fun r w' => r = .returned (.bool (insOkB (rho w0) s P.room x)) ∧ PtAt w' P (insS (rho w0) s P.room x) ∧ Fr P.wr w w' := by
  obtain ⟨ba, hba⟩ : ∃ b, bareB (rho w0) x = b := ⟨_, rfl⟩
  obtain ⟨ga, hga⟩ : ∃ a, x.ga = a := ⟨_, rfl⟩
  have HBA := Hd.mk hba
  have HX := Hd.mk hx
  have HGN := Hd.mk hx.gone.n
  have HGA := Hd.mk hga
  have HG : Hd (SlIs Qn.c 3 w0 ga x.G.length x.G) := Hd.mk (by rw [← hga, ← HGN.out]; exact hx.gone)
  have hgl : (x.G.length : Int) ≤ 9223372036854775807 := by have := hx.gone.le; omega
  have HPW : Hd (∀ k ∈ P.wr, w0.heap.size ≤ k) := Hd.mk (fun k hk => hP k (by simp only [Pt.wr, Pt.all, List.mem_cons, List.not_mem_nil, or_false] at hk ⊢; rcases hk with h | h <;> simp [h]))
  have H := Hd.mk h
  have H0 := Hd.mk h0
  have HE := Hd.mk hE
  have HL := Hd.mk hL
  clear h hba hga hx h0 hE hL hP
  obtain ⟨cv, hcv⟩ : ∃ c, (evC x).toArray = c := ⟨_, rfl⟩
  have HCV := Hd.mk hcv
  have HXV : Hd (Value.agg cv = x.v) := Hd.mk (by rw [← hcv]; rfl)
  have HC19 : Hd ((evC x)[19]? = some (.slice ga x.G.length x.gc)) := Hd.mk (by rw [← HGN.out, ← HGA.out]; rfl)
  clear hcv
  unfold Ev.v
  go_enter Try.func14, Try.ntmps14
  go_upto_region 1 with (fail)
  refine wp_name ?_; intro w1 hw1
  have hf1 := alloc_of hw1
  have hb1 := blk_of (T := 38) (c := evC x) hw1
  clear hw1
  have hnb : w.heap.size ∉ P.wr := by
    have h1 := H.out.lt P.bm (by simp [Pt.all])
    have h2 := H.out.lt P.be (by simp [Pt.all])
    simp [Pt.wr]; omega
  have HNE := Hd.mk hnb
  obtain ⟨bx, hbx⟩ : ∃ p, w.heap.size = p := ⟨_, rfl⟩
  rw [hbx] at hb1 HNE ⊢
  rw [show Value.agg #[.int .i64 x.kind, .string x.de.q.name, .int .u16 x.de.q.ty, .int .u16 x.de.q.cl, .slice x.de.ra x.de.rn x.de.rc, .int .i64 x.de.rcode, .int .i64 x.de.rank, .int .u64 x.de.expire, .int .u64 x.now, .int .i64 x.sh, .string x.told.q.name, .int .u16 x.told.q.ty, .int .u16 x.told.q.cl, .slice x.told.ra x.told.rn x.told.rc, .int .i64 x.told.rcode, .int .i64 x.told.rank, .int .u64 x.told.expire, .bool x.is, .int .i64 x.err, .slice x.ga x.gn x.gc] = x.v from rfl]
  have HF1 := Hd.mk hf1
  have HPT1 := Hd.mk (H.out.fr0 hf1)
  have HBX1 := Hd.mk hb1
  clear hf1 hb1 hbx hnb
  go_step
  refine wpList_load rfl rfl (Try.isAgg38 _) (Try.sizeOf38 _) (blk_load HBX1.out (n := 20) rfl HCV.out) rfl ?_
  go_wp2_with fail
  rw [HXV.out]
  refine (bare_calls (H0.out.trans HF1.out) HX.out).mono ?_
  rintro r w2 ⟨rfl, hf2⟩
  have HF2 := Hd.mk (HF1.out.trans hf2)
  have HPT2 := Hd.mk (HPT1.out.fr0 hf2)
  have HBX2 := Hd.mk (HBX1.out.fr hf2 (by simp))
  clear hf2 HF1 HPT1 HBX1
  rw [HBA.out]
  cases ba with
  | false =>
    have HGO := Hd.mk (ins_no (ρ := rho w0) (s := s) (m := P.room) (x := x) (by unfold insOkB; rw [HBA.out]; rfl))
    go_wp2
    go_ret
    exact ⟨by rw [HGO.out.1]; rfl, by rw [HGO.out.2]; exact HPT2.out, HF2.out.mono (by simp)⟩
  | true =>
    obtain ⟨rb, hrb⟩ : ∃ b, roomB s P.room x = b := ⟨_, rfl⟩
    have HRB := Hd.mk hrb
    clear hrb
    go_upto_region 3 with (fail)
    go_cut [5] from 8 (fun v wr => Fr [] w2 wr ∧ v = .bool rb)
    case first =>
      have HPT := Hd.mk (HPT2.out.fr0 (Fr.refl [] w2).drew)
      have HBX := Hd.mk HBX2.out.drew
      have HPB : Hd (Blk w2.drew P.pp 57 [.pointer (some ⟨P.pm, 0, none⟩), .map (some P.be)]) := Hd.mk HPT.out.blk
      have HMM := Hd.mk HPT.out.m
      cases hfu : decide ((s.L.length : Int) ≥ P.room) with
      | false =>
        have HRV : Hd (rb = false) := Hd.mk (by rw [← HRB.out]; unfold roomB; rw [hfu]; rfl)
        have HFU := Hd.mk hfu
        clear hfu
        go_wp2_with fail
        refine wp_region_gs { R := Fr [], R1 := Fr [], gs := [Is (.pointer (some ⟨P.pp, 0, none⟩)), Is (.pointer (some ⟨P.pp, 0, none⟩)), Is (.pointer (some ⟨P.pp, 0, none⟩)), Is (.pointer (some ⟨P.pm, 0, none⟩)), Is (.bool false), Is (.bool false), No, No, No, No, No, No, No, No, No, No, Is (.bool false), Is (.bool false), No, No, No, No, No, No, No, No, Is (.bool false), Is (.bool false)], ds := [some 11, some 12, some 13, some 14, some 15, some 16, some 17, some 18, some 19, some 20, some 21, some 22, some 23, some 24, some 25, some 26, some 27, some 28, some 29, some 30, some 31, some 32, some 33, some 34, some 35, some 36, some 37, some 5], fl := [false, false, false, false, false, false, false, false, false, false, false, false, false, false, false, false, false, false, false, false, false, false, false, false, false, false, false, false], hs := [], hd := [] } [false, false, false, false, false, true, false, false, false, false, false, true, true, true, true, true, true, true, true, true, true, true, true, true, true, true, true, true, true, true, true, true, true, true, true, true, true, true, false, false, false, false, false, false, false, false, false, false, false, false, false, false, false, false, false, false, false, false, false, false, false, false, false, false, false, false, false, false, false, false, false, false, false, false, false, false, false, false, false, false, false, false, false, false, false, false, false, false, false, false, false, false, false, false, false, false, false, false, false, false, false, false, false, false, false] (by kernel_rfl) _ (by kernel_rfl) (by kernel_rfl) (by kernel_rfl) (by kernel_rfl) rfl [] (fun _ _ _ h1 h2 => h1.trans h2) (fun _ _ h => h) (staI (staI (staI (staI (staI (staI (staN (staN (staN (staN (staN (staN (staN (staN (staN (staN (staI (staI (staN (staN (staN (staN (staN (staN (staN (staN (staI (staI sta0)))))))))))))))))))))))))))) sth0 (fun _ _ h => h.size) _ (Fr.refl _ _) trivial ?_ ?_
        · refine ⟨?_, ?_, ?_, ?_, ?_, ?_, ?_, ?_, ?_, ?_, ?_, ?_, ?_, ?_, ?_, ?_, ?_, ?_, ?_, ?_, ?_, ?_, ?_, ?_, ?_, ?_, ?_, ?_, trivial⟩
          · intro σ w' hR hd
            simp only [fill, Nat.reduceAdd, if_true, Bool.false_eq_true, if_false]
            clear hd
            go_wp2
            exact ⟨Fr.refl _ _, rfl⟩
          · intro σ w' hR hd
            simp only [fill, Nat.reduceAdd, if_true, Bool.false_eq_true, if_false]
            obtain h11 : σ 11 = _ := hd 0 (by decide)
            rw [h11]
            clear h11
            clear hd
            go_wp2
            exact ⟨Fr.refl _ _, rfl⟩
          · intro σ w' hR hd
            simp only [fill, Nat.reduceAdd, if_true, Bool.false_eq_true, if_false]
            obtain h12 : σ 12 = _ := hd 1 (by decide)
            rw [h12]
            clear h12
            clear hd
            go_wp2
            exact ⟨Fr.refl _ _, rfl⟩
          · intro σ w' hR hd
            simp only [fill, Nat.reduceAdd, if_true, Bool.false_eq_true, if_false]
            obtain h13 : σ 13 = _ := hd 2 (by decide)
            rw [h13]
            clear h13
            clear hd
            have d0 : w'.cell? ⟨P.pp, 0, none⟩ = some (.pointer (some ⟨P.pm, 0, none⟩)) := (HPB.out.fr hR (by simp)).cell (i := 0) rfl
            go_wp2
            exact ⟨Fr.refl _ _, rfl⟩
          · intro σ w' hR hd
            simp only [fill, Nat.reduceAdd, if_true, Bool.false_eq_true, if_false]
            obtain h14 : σ 14 = _ := hd 3 (by decide)
            rw [h14]
            clear h14
            clear hd
            have hm4 := HMM.out.fr hR (by simp) (by simp)
            go_wp2_with fail
            refine (full_calls hm4).mono ?_
            rintro r w4 ⟨rfl, hf0⟩
            have hf4 := Hd.mk hf0
            clear hf0
            rw [HFU.out]
            go_wp2
            exact ⟨hf4.out, rfl⟩
          · intro σ w' hR hd
            simp only [fill, Nat.reduceAdd, if_true, Bool.false_eq_true, if_false]
            obtain h15 : σ 15 = _ := hd 4 (by decide)
            rw [h15]
            clear h15
            clear hd
            go_wp2
            exact ⟨Fr.refl _ _, rfl⟩
          · intro σ w' hR hd
            simp only [fill, Nat.reduceAdd, if_true, Bool.false_eq_true, if_false]
            obtain h16 : σ 16 = _ := hd 5 (by decide)
            rw [h16]
            clear h16
            clear hd
            go_wp2
            exact ⟨Fr.refl _ _, trivial⟩
          · intro σ w' hR hd
            simp only [fill, Nat.reduceAdd, if_true, Bool.false_eq_true, if_false]
            obtain h16 : σ 16 = _ := hd 5 (by decide)
            rw [h16]
            clear h16
            clear hd
            go_wp2
            exact ⟨Fr.refl _ _, trivial⟩
          · intro σ w' hR hd
            simp only [fill, Nat.reduceAdd, if_true, Bool.false_eq_true, if_false]
            obtain h16 : σ 16 = _ := hd 5 (by decide)
            rw [h16]
            clear h16
            clear hd
            go_wp2
            exact ⟨Fr.refl _ _, trivial⟩
          · intro σ w' hR hd
            simp only [fill, Nat.reduceAdd, if_true, Bool.false_eq_true, if_false]
            obtain h16 : σ 16 = _ := hd 5 (by decide)
            rw [h16]
            clear h16
            clear hd
            go_wp2
            exact ⟨Fr.refl _ _, trivial⟩
          · intro σ w' hR hd
            simp only [fill, Nat.reduceAdd, if_true, Bool.false_eq_true, if_false]
            obtain h16 : σ 16 = _ := hd 5 (by decide)
            rw [h16]
            clear h16
            clear hd
            go_wp2
            exact ⟨Fr.refl _ _, trivial⟩
          · intro σ w' hR hd
            simp only [fill, Nat.reduceAdd, if_true, Bool.false_eq_true, if_false]
            obtain h16 : σ 16 = _ := hd 5 (by decide)
            rw [h16]
            clear h16
            clear hd
            go_wp2
            exact ⟨Fr.refl _ _, trivial⟩
          · intro σ w' hR hd
            simp only [fill, Nat.reduceAdd, if_true, Bool.false_eq_true, if_false]
            obtain h16 : σ 16 = _ := hd 5 (by decide)
            rw [h16]
            clear h16
            clear hd
            go_wp2
            exact ⟨Fr.refl _ _, trivial⟩
          · intro σ w' hR hd
            simp only [fill, Nat.reduceAdd, if_true, Bool.false_eq_true, if_false]
            obtain h16 : σ 16 = _ := hd 5 (by decide)
            rw [h16]
            clear h16
            clear hd
            go_wp2
            exact ⟨Fr.refl _ _, trivial⟩
          · intro σ w' hR hd
            simp only [fill, Nat.reduceAdd, if_true, Bool.false_eq_true, if_false]
            obtain h16 : σ 16 = _ := hd 5 (by decide)
            rw [h16]
            clear h16
            clear hd
            go_wp2
            exact ⟨Fr.refl _ _, trivial⟩
          · intro σ w' hR hd
            simp only [fill, Nat.reduceAdd, if_true, Bool.false_eq_true, if_false]
            obtain h16 : σ 16 = _ := hd 5 (by decide)
            rw [h16]
            clear h16
            clear hd
            go_wp2
            exact ⟨Fr.refl _ _, trivial⟩
          · intro σ w' hR hd
            simp only [fill, Nat.reduceAdd, if_true, Bool.false_eq_true, if_false]
            obtain h16 : σ 16 = _ := hd 5 (by decide)
            rw [h16]
            clear h16
            clear hd
            go_wp2
            exact ⟨Fr.refl _ _, rfl⟩
          · intro σ w' hR hd
            simp only [fill, Nat.reduceAdd, if_true, Bool.false_eq_true, if_false]
            obtain h27 : σ 27 = _ := hd 16 (by decide)
            rw [h27]
            clear h27
            clear hd
            go_wp2
            exact ⟨Fr.refl _ _, rfl⟩
          · intro σ w' hR hd
            simp only [fill, Nat.reduceAdd, if_true, Bool.false_eq_true, if_false]
            obtain h28 : σ 28 = _ := hd 17 (by decide)
            rw [h28]
            clear h28
            clear hd
            go_wp2
            exact ⟨Fr.refl _ _, trivial⟩
          · intro σ w' hR hd
            simp only [fill, Nat.reduceAdd, if_true, Bool.false_eq_true, if_false]
            obtain h28 : σ 28 = _ := hd 17 (by decide)
            rw [h28]
            clear h28
            clear hd
            go_wp2
            exact ⟨Fr.refl _ _, trivial⟩
          · intro σ w' hR hd
            simp only [fill, Nat.reduceAdd, if_true, Bool.false_eq_true, if_false]
            obtain h28 : σ 28 = _ := hd 17 (by decide)
            rw [h28]
            clear h28
            clear hd
            go_wp2
            exact ⟨Fr.refl _ _, trivial⟩
          · intro σ w' hR hd
            simp only [fill, Nat.reduceAdd, if_true, Bool.false_eq_true, if_false]
            obtain h28 : σ 28 = _ := hd 17 (by decide)
            rw [h28]
            clear h28
            clear hd
            go_wp2
            exact ⟨Fr.refl _ _, trivial⟩
          · intro σ w' hR hd
            simp only [fill, Nat.reduceAdd, if_true, Bool.false_eq_true, if_false]
            obtain h28 : σ 28 = _ := hd 17 (by decide)
            rw [h28]
            clear h28
            clear hd
            go_wp2
            exact ⟨Fr.refl _ _, trivial⟩
          · intro σ w' hR hd
            simp only [fill, Nat.reduceAdd, if_true, Bool.false_eq_true, if_false]
            obtain h28 : σ 28 = _ := hd 17 (by decide)
            rw [h28]
            clear h28
            clear hd
            go_wp2
            exact ⟨Fr.refl _ _, trivial⟩
          · intro σ w' hR hd
            simp only [fill, Nat.reduceAdd, if_true, Bool.false_eq_true, if_false]
            obtain h28 : σ 28 = _ := hd 17 (by decide)
            rw [h28]
            clear h28
            clear hd
            go_wp2
            exact ⟨Fr.refl _ _, trivial⟩
          · intro σ w' hR hd
            simp only [fill, Nat.reduceAdd, if_true, Bool.false_eq_true, if_false]
            obtain h28 : σ 28 = _ := hd 17 (by decide)
            rw [h28]
            clear h28
            clear hd
            go_wp2
            exact ⟨Fr.refl _ _, trivial⟩
          · intro σ w' hR hd
            simp only [fill, Nat.reduceAdd, if_true, Bool.false_eq_true, if_false]
            obtain h28 : σ 28 = _ := hd 17 (by decide)
            rw [h28]
            clear h28
            clear hd
            go_wp2
            exact ⟨Fr.refl _ _, rfl⟩
          · intro σ w' hR hd
            simp only [fill, Nat.reduceAdd, if_true, Bool.false_eq_true, if_false]
            obtain h37 : σ 37 = _ := hd 26 (by decide)
            rw [h37]
            clear h37
            clear hd
            go_wp2
            exact ⟨Fr.refl _ _, rfl⟩
        · intro σ w3 hR hG hH
          obtain h5 : σ 5 = _ := hG 27 (by decide)
          simp only [fill, Nat.reduceAdd, if_true, Bool.false_eq_true, if_false, h5]
          clear h5
          clear hG
          have HF3 := Hd.mk ((Fr.refl [] w2).drew.trans hR)
          clear hR
          go_wp2_with fail
          go_meet
          case rel => exact ⟨HF3.out, by rw [HRV.out]⟩
      | true =>
        have HFU := Hd.mk hfu
        cases his : (findE s.L x.de.q).isSome with
        | true =>
          have HRV : Hd (rb = false) := Hd.mk (by rw [← HRB.out]; unfold roomB; rw [his]; simp)
          have HIS := Hd.mk his
          clear hfu his
          go_wp2_with fail
          refine wp_region_gs { R := Fr [], R1 := Fr [], gs := [Is (.pointer (some ⟨P.pp, 0, none⟩)), Is (.pointer (some ⟨P.pp, 0, none⟩)), Is (.pointer (some ⟨P.pp, 0, none⟩)), Is (.pointer (some ⟨P.pm, 0, none⟩)), Is (.bool true), Is (.bool true), Is (.pointer (some ⟨P.pp, 0, none⟩)), Is (.pointer (some ⟨P.pp, 0, none⟩)), Is (.pointer (some ⟨P.pp, 0, none⟩)), Is (.pointer (some ⟨P.pm, 0, none⟩)), Is (.pointer (some ⟨bx, 0, none⟩)), Is (.pointer (some ⟨bx, 1, none⟩)), Is (.pointer (some ⟨bx, 1, none⟩)), Is (.agg #[.string x.de.q.name, .int .u16 x.de.q.ty, .int .u16 x.de.q.cl]), Is (.bool true), Is (.bool false), Is (.bool false), Is (.bool false), No, No, No, No, No, No, No, No, Is (.bool false), Is (.bool false)], ds := [some 11, some 12, some 13, some 14, some 15, some 16, some 17, some 18, some 19, some 20, some 21, some 22, some 23, some 24, some 25, some 26, some 27, some 28, some 29, some 30, some 31, some 32, some 33, some 34, some 35, some 36, some 37, some 5], fl := [false, false, false, false, false, false, false, false, false, false, false, false, false, false, false, false, false, false, false, false, false, false, false, false, false, false, false, false], hs := [], hd := [] } [false, false, false, false, false, true, false, false, false, false, false, true, true, true, true, true, true, true, true, true, true, true, true, true, true, true, true, true, true, true, true, true, true, true, true, true, true, true, false, false, false, false, false, false, false, false, false, false, false, false, false, false, false, false, false, false, false, false, false, false, false, false, false, false, false, false, false, false, false, false, false, false, false, false, false, false, false, false, false, false, false, false, false, false, false, false, false, false, false, false, false, false, false, false, false, false, false, false, false, false, false, false, false, false, false] (by kernel_rfl) _ (by kernel_rfl) (by kernel_rfl) (by kernel_rfl) (by kernel_rfl) rfl [] (fun _ _ _ h1 h2 => h1.trans h2) (fun _ _ h => h) (staI (staI (staI (staI (staI (staI (staI (staI (staI (staI (staI (staI (staI (staI (staI (staI (staI (staI (staN (staN (staN (staN (staN (staN (staN (staN (staI (staI sta0)))))))))))))))))))))))))))) sth0 (fun _ _ h => h.size) _ (Fr.refl _ _) trivial ?_ ?_
          · refine ⟨?_, ?_, ?_, ?_, ?_, ?_, ?_, ?_, ?_, ?_, ?_, ?_, ?_, ?_, ?_, ?_, ?_, ?_, ?_, ?_, ?_, ?_, ?_, ?_, ?_, ?_, ?_, ?_, trivial⟩
            · intro σ w' hR hd
              simp only [fill, Nat.reduceAdd, if_true, Bool.false_eq_true, if_false]
              clear hd
              go_wp2
              exact ⟨Fr.refl _ _, rfl⟩
            · intro σ w' hR hd
              simp only [fill, Nat.reduceAdd, if_true, Bool.false_eq_true, if_false]
              obtain h11 : σ 11 = _ := hd 0 (by decide)
              rw [h11]
              clear h11
              clear hd
              go_wp2
              exact ⟨Fr.refl _ _, rfl⟩
            · intro σ w' hR hd
              simp only [fill, Nat.reduceAdd, if_true, Bool.false_eq_true, if_false]
              obtain h12 : σ 12 = _ := hd 1 (by decide)
              rw [h12]
              clear h12
              clear hd
              go_wp2
              exact ⟨Fr.refl _ _, rfl⟩
            · intro σ w' hR hd
              simp only [fill, Nat.reduceAdd, if_true, Bool.false_eq_true, if_false]
              obtain h13 : σ 13 = _ := hd 2 (by decide)
              rw [h13]
              clear h13
              clear hd
              have d0 : w'.cell? ⟨P.pp, 0, none⟩ = some (.pointer (some ⟨P.pm, 0, none⟩)) := (HPB.out.fr hR (by simp)).cell (i := 0) rfl
              go_wp2
              exact ⟨Fr.refl _ _, rfl⟩
            · intro σ w' hR hd
              simp only [fill, Nat.reduceAdd, if_true, Bool.false_eq_true, if_false]
              obtain h14 : σ 14 = _ := hd 3 (by decide)
              rw [h14]
              clear h14
              clear hd
              have hm4 := HMM.out.fr hR (by simp) (by simp)
              go_wp2_with fail
              refine (full_calls hm4).mono ?_
              rintro r w4 ⟨rfl, hf0⟩
              have hf4 := Hd.mk hf0
              clear hf0
              rw [HFU.out]
              go_wp2
              exact ⟨hf4.out, rfl⟩
            · intro σ w' hR hd
              simp only [fill, Nat.reduceAdd, if_true, Bool.false_eq_true, if_false]
              obtain h15 : σ 15 = _ := hd 4 (by decide)
              rw [h15]
              clear h15
              clear hd
              go_wp2
              exact ⟨Fr.refl _ _, rfl⟩
            · intro σ w' hR hd
              simp only [fill, Nat.reduceAdd, if_true, Bool.false_eq_true, if_false]
              obtain h16 : σ 16 = _ := hd 5 (by decide)
              rw [h16]
              clear h16
              clear hd
              go_wp2
              exact ⟨Fr.refl _ _, rfl⟩
            · intro σ w' hR hd
              simp only [fill, Nat.reduceAdd, if_true, Bool.false_eq_true, if_false]
              obtain h16 : σ 16 = _ := hd 5 (by decide)
              obtain h17 : σ 17 = _ := hd 6 (by decide)
              rw [h16, h17]
              clear h16 h17
              clear hd
              go_wp2
              exact ⟨Fr.refl _ _, rfl⟩
            · intro σ w' hR hd
              simp only [fill, Nat.reduceAdd, if_true, Bool.false_eq_true, if_false]
              obtain h16 : σ 16 = _ := hd 5 (by decide)
              obtain h18 : σ 18 = _ := hd 7 (by decide)
              rw [h16, h18]
              clear h16 h18
              clear hd
              go_wp2
              exact ⟨Fr.refl _ _, rfl⟩
            · intro σ w' hR hd
              simp only [fill, Nat.reduceAdd, if_true, Bool.false_eq_true, if_false]
              obtain h16 : σ 16 = _ := hd 5 (by decide)
              obtain h19 : σ 19 = _ := hd 8 (by decide)
              rw [h16, h19]
              clear h16 h19
              clear hd
              have d0 : w'.cell? ⟨P.pp, 0, none⟩ = some (.pointer (some ⟨P.pm, 0, none⟩)) := (HPB.out.fr hR (by simp)).cell (i := 0) rfl
              go_wp2
              exact ⟨Fr.refl _ _, rfl⟩
            · intro σ w' hR hd
              simp only [fill, Nat.reduceAdd, if_true, Bool.false_eq_true, if_false]
              obtain h16 : σ 16 = _ := hd 5 (by decide)
              rw [h16]
              clear h16
              clear hd
              go_wp2
              exact ⟨Fr.refl _ _, rfl⟩
            · intro σ w' hR hd
              simp only [fill, Nat.reduceAdd, if_true, Bool.false_eq_true, if_false]
              obtain h16 : σ 16 = _ := hd 5 (by decide)
              obtain h21 : σ 21 = _ := hd 10 (by decide)
              rw [h16, h21]
              clear h16 h21
              clear hd
              go_wp2
              exact ⟨Fr.refl _ _, rfl⟩
            · intro σ w' hR hd
              simp only [fill, Nat.reduceAdd, if_true, Bool.false_eq_true, if_false]
              obtain h16 : σ 16 = _ := hd 5 (by decide)
              obtain h22 : σ 22 = _ := hd 11 (by decide)
              rw [h16, h22]
              clear h16 h22
              clear hd
              go_wp2
              exact ⟨Fr.refl _ _, rfl⟩
            · intro σ w' hR hd
              simp only [fill, Nat.reduceAdd, if_true, Bool.false_eq_true, if_false]
              obtain h16 : σ 16 = _ := hd 5 (by decide)
              obtain h23 : σ 23 = _ := hd 12 (by decide)
              rw [h16, h23]
              clear h16 h23
              clear hd
              have d1 : w'.cell? ⟨bx, 1, none⟩ = some (.string x.de.q.name) := (HBX.out.fr hR (by simp)).cell (i := 1) rfl
              have d2 : w'.cell? ⟨bx, 2, none⟩ = some (.int .u16 x.de.q.ty) := (HBX.out.fr hR (by simp)).cell (i := 2) rfl
              have d3 : w'.cell? ⟨bx, 3, none⟩ = some (.int .u16 x.de.q.cl) := (HBX.out.fr hR (by simp)).cell (i := 3) rfl
              go_wp2
              exact ⟨Fr.refl _ _, rfl⟩
            · intro σ w' hR hd
              simp only [fill, Nat.reduceAdd, if_true, Bool.false_eq_true, if_false]
              obtain h16 : σ 16 = _ := hd 5 (by decide)
              obtain h20 : σ 20 = _ := hd 9 (by decide)
              obtain h24 : σ 24 = _ := hd 13 (by decide)
              rw [h16, h20, h24]
              clear h16 h20 h24
              clear hd
              have hm4 := HMM.out.fr hR (by simp) (by simp)
              go_wp2_with fail
              refine (has_calls hm4 x.de.q).mono ?_
              rintro r w4 ⟨rfl, hf0⟩
              have hf4 := Hd.mk hf0
              clear hf0
              rw [HIS.out]
              go_wp2
              exact ⟨hf4.out, rfl⟩
            · intro σ w' hR hd
              simp only [fill, Nat.reduceAdd, if_true, Bool.false_eq_true, if_false]
              obtain h16 : σ 16 = _ := hd 5 (by decide)
              obtain h25 : σ 25 = _ := hd 14 (by decide)
              rw [h16, h25]
              clear h16 h25
              clear hd
              go_wp2
              exact ⟨Fr.refl _ _, rfl⟩
            · intro σ w' hR hd
              simp only [fill, Nat.reduceAdd, if_true, Bool.false_eq_true, if_false]
              obtain h16 : σ 16 = _ := hd 5 (by decide)
              obtain h26 : σ 26 = _ := hd 15 (by decide)
              rw [h16, h26]
              clear h16 h26
              clear hd
              go_wp2
              exact ⟨Fr.refl _ _, rfl⟩
            · intro σ w' hR hd
              simp only [fill, Nat.reduceAdd, if_true, Bool.false_eq_true, if_false]
              obtain h27 : σ 27 = _ := hd 16 (by decide)
              rw [h27]
              clear h27
              clear hd
              go_wp2
              exact ⟨Fr.refl _ _, rfl⟩
            · intro σ w' hR hd
              simp only [fill, Nat.reduceAdd, if_true, Bool.false_eq_true, if_false]
              obtain h28 : σ 28 = _ := hd 17 (by decide)
              rw [h28]
              clear h28
              clear hd
              go_wp2
              exact ⟨Fr.refl _ _, trivial⟩
            · intro σ w' hR hd
              simp only [fill, Nat.reduceAdd, if_true, Bool.false_eq_true, if_false]
              obtain h28 : σ 28 = _ := hd 17 (by decide)
              rw [h28]
              clear h28
              clear hd
              go_wp2
              exact ⟨Fr.refl _ _, trivial⟩
            · intro σ w' hR hd
              simp only [fill, Nat.reduceAdd, if_true, Bool.false_eq_true, if_false]
              obtain h28 : σ 28 = _ := hd 17 (by decide)
              rw [h28]
              clear h28
              clear hd
              go_wp2
              exact ⟨Fr.refl _ _, trivial⟩
            · intro σ w' hR hd
              simp only [fill, Nat.reduceAdd, if_true, Bool.false_eq_true, if_false]
              obtain h28 : σ 28 = _ := hd 17 (by decide)
              rw [h28]
              clear h28
              clear hd
              go_wp2
              exact ⟨Fr.refl _ _, trivial⟩
            · intro σ w' hR hd
              simp only [fill, Nat.reduceAdd, if_true, Bool.false_eq_true, if_false]
              obtain h28 : σ 28 = _ := hd 17 (by decide)
              rw [h28]
              clear h28
              clear hd
              go_wp2
              exact ⟨Fr.refl _ _, trivial⟩
            · intro σ w' hR hd
              simp only [fill, Nat.reduceAdd, if_true, Bool.false_eq_true, if_false]
              obtain h28 : σ 28 = _ := hd 17 (by decide)
              rw [h28]
              clear h28
              clear hd
              go_wp2
              exact ⟨Fr.refl _ _, trivial⟩
            · intro σ w' hR hd
              simp only [fill, Nat.reduceAdd, if_true, Bool.false_eq_true, if_false]
              obtain h28 : σ 28 = _ := hd 17 (by decide)
              rw [h28]
              clear h28
              clear hd
              go_wp2
              exact ⟨Fr.refl _ _, trivial⟩
            · intro σ w' hR hd
              simp only [fill, Nat.reduceAdd, if_true, Bool.false_eq_true, if_false]
              obtain h28 : σ 28 = _ := hd 17 (by decide)
              rw [h28]
              clear h28
              clear hd
              go_wp2
              exact ⟨Fr.refl _ _, trivial⟩
            · intro σ w' hR hd
              simp only [fill, Nat.reduceAdd, if_true, Bool.false_eq_true, if_false]
              obtain h28 : σ 28 = _ := hd 17 (by decide)
              rw [h28]
              clear h28
              clear hd
              go_wp2
              exact ⟨Fr.refl _ _, rfl⟩
            · intro σ w' hR hd
              simp only [fill, Nat.reduceAdd, if_true, Bool.false_eq_true, if_false]
              obtain h37 : σ 37 = _ := hd 26 (by decide)
              rw [h37]
              clear h37
              clear hd
              go_wp2
              exact ⟨Fr.refl _ _, rfl⟩
          · intro σ w3 hR hG hH
            obtain h5 : σ 5 = _ := hG 27 (by decide)
            simp only [fill, Nat.reduceAdd, if_true, Bool.false_eq_true, if_false, h5]
            clear h5
            clear hG
            have HF3 := Hd.mk ((Fr.refl [] w2).drew.trans hR)
            clear hR
            go_wp2_with fail
            go_meet
            case rel => exact ⟨HF3.out, by rw [HRV.out]⟩
        | false =>
          have HIS := Hd.mk his
          cases hlv : liveB x.de.expire x.now with
          | false =>
            have HRV : Hd (rb = false) := Hd.mk (by rw [← HRB.out]; unfold roomB; rw [hlv]; simp)
            have HLV := Hd.mk hlv
            clear hfu his hlv
            go_wp2_with fail
            refine wp_region_gs { R := Fr [], R1 := Fr [], gs := [Is (.pointer (some ⟨P.pp, 0, none⟩)), Is (.pointer (some ⟨P.pp, 0, none⟩)), Is (.pointer (some ⟨P.pp, 0, none⟩)), Is (.pointer (some ⟨P.pm, 0, none⟩)), Is (.bool true), Is (.bool true), Is (.pointer (some ⟨P.pp, 0, none⟩)), Is (.pointer (some ⟨P.pp, 0, none⟩)), Is (.pointer (some ⟨P.pp, 0, none⟩)), Is (.pointer (some ⟨P.pm, 0, none⟩)), Is (.pointer (some ⟨bx, 0, none⟩)), Is (.pointer (some ⟨bx, 1, none⟩)), Is (.pointer (some ⟨bx, 1, none⟩)), Is (.agg #[.string x.de.q.name, .int .u16 x.de.q.ty, .int .u16 x.de.q.cl]), Is (.bool false), Is (.bool true), Is (.bool true), Is (.bool true), Is (.pointer (some ⟨bx, 0, none⟩)), Is (.pointer (some ⟨bx, 1, none⟩)), Is (.pointer (some ⟨bx, 7, none⟩)), Is (.int .u64 x.de.expire), Is (.pointer (some ⟨bx, 0, none⟩)), Is (.pointer (some ⟨bx, 8, none⟩)), Is (.int .u64 x.now), Is (.bool false), Is (.bool false), Is (.bool false)], ds := [some 11, some 12, some 13, some 14, some 15, some 16, some 17, some 18, some 19, some 20, some 21, some 22, some 23, some 24, some 25, some 26, some 27, some 28, some 29, some 30, some 31, some 32, some 33, some 34, some 35, some 36, some 37, some 5], fl := [false, false, false, false, false, false, false, false, false, false, false, false, false, false, false, false, false, false, false, false, false, false, false, false, false, false, false, false], hs := [], hd := [] } [false, false, false, false, false, true, false, false, false, false, false, true, true, true, true, true, true, true, true, true, true, true, true, true, true, true, true, true, true, true, true, true, true, true, true, true, true, true, false, false, false, false, false, false, false, false, false, false, false, false, false, false, false, false, false, false, false, false, false, false, false, false, false, false, false, false, false, false, false, false, false, false, false, false, false, false, false, false, false, false, false, false, false, false, false, false, false, false, false, false, false, false, false, false, false, false, false, false, false, false, false, false, false, false, false] (by kernel_rfl) _ (by kernel_rfl) (by kernel_rfl) (by kernel_rfl) (by kernel_rfl) rfl [] (fun _ _ _ h1 h2 => h1.trans h2) (fun _ _ h => h) (staI (staI (staI (staI (staI (staI (staI (staI (staI (staI (staI (staI (staI (staI (staI (staI (staI (staI (staI (staI (staI (staI (staI (staI (staI (staI (staI (staI sta0)))))))))))))))))))))))))))) sth0 (fun _ _ h => h.size) _ (Fr.refl _ _) trivial ?_ ?_
            · refine ⟨?_, ?_, ?_, ?_, ?_, ?_, ?_, ?_, ?_, ?_, ?_, ?_, ?_, ?_, ?_, ?_, ?_, ?_, ?_, ?_, ?_, ?_, ?_, ?_, ?_, ?_, ?_, ?_, trivial⟩
              · intro σ w' hR hd
                simp only [fill, Nat.reduceAdd, if_true, Bool.false_eq_true, if_false]
                clear hd
                go_wp2
                exact ⟨Fr.refl _ _, rfl⟩
              · intro σ w' hR hd
                simp only [fill, Nat.reduceAdd, if_true, Bool.false_eq_true, if_false]
                obtain h11 : σ 11 = _ := hd 0 (by decide)
                rw [h11]
                clear h11
                clear hd
                go_wp2
                exact ⟨Fr.refl _ _, rfl⟩
              · intro σ w' hR hd
                simp only [fill, Nat.reduceAdd, if_true, Bool.false_eq_true, if_false]
                obtain h12 : σ 12 = _ := hd 1 (by decide)
                rw [h12]
                clear h12
                clear hd
                go_wp2
                exact ⟨Fr.refl _ _, rfl⟩
              · intro σ w' hR hd
                simp only [fill, Nat.reduceAdd, if_true, Bool.false_eq_true, if_false]
                obtain h13 : σ 13 = _ := hd 2 (by decide)
                rw [h13]
                clear h13
                clear hd
                have d0 : w'.cell? ⟨P.pp, 0, none⟩ = some (.pointer (some ⟨P.pm, 0, none⟩)) := (HPB.out.fr hR (by simp)).cell (i := 0) rfl
                go_wp2
                exact ⟨Fr.refl _ _, rfl⟩
              · intro σ w' hR hd
                simp only [fill, Nat.reduceAdd, if_true, Bool.false_eq_true, if_false]
                obtain h14 : σ 14 = _ := hd 3 (by decide)
                rw [h14]
                clear h14
                clear hd
                have hm4 := HMM.out.fr hR (by simp) (by simp)
                go_wp2_with fail
                refine (full_calls hm4).mono ?_
                rintro r w4 ⟨rfl, hf0⟩
                have hf4 := Hd.mk hf0
                clear hf0
                rw [HFU.out]
                go_wp2
                exact ⟨hf4.out, rfl⟩
              · intro σ w' hR hd
                simp only [fill, Nat.reduceAdd, if_true, Bool.false_eq_true, if_false]
                obtain h15 : σ 15 = _ := hd 4 (by decide)
                rw [h15]
                clear h15
                clear hd
                go_wp2
                exact ⟨Fr.refl _ _, rfl⟩
              · intro σ w' hR hd
                simp only [fill, Nat.reduceAdd, if_true, Bool.false_eq_true, if_false]
                obtain h16 : σ 16 = _ := hd 5 (by decide)
                rw [h16]
                clear h16
                clear hd
                go_wp2
                exact ⟨Fr.refl _ _, rfl⟩
              · intro σ w' hR hd
                simp only [fill, Nat.reduceAdd, if_true, Bool.false_eq_true, if_false]
                obtain h16 : σ 16 = _ := hd 5 (by decide)
                obtain h17 : σ 17 = _ := hd 6 (by decide)
                rw [h16, h17]
                clear h16 h17
                clear hd
                go_wp2
                exact ⟨Fr.refl _ _, rfl⟩
              · intro σ w' hR hd
                simp only [fill, Nat.reduceAdd, if_true, Bool.false_eq_true, if_false]
                obtain h16 : σ 16 = _ := hd 5 (by decide)
                obtain h18 : σ 18 = _ := hd 7 (by decide)
                rw [h16, h18]
                clear h16 h18
                clear hd
                go_wp2
                exact ⟨Fr.refl _ _, rfl⟩
              · intro σ w' hR hd
                simp only [fill, Nat.reduceAdd, if_true, Bool.false_eq_true, if_false]
                obtain h16 : σ 16 = _ := hd 5 (by decide)
                obtain h19 : σ 19 = _ := hd 8 (by decide)
                rw [h16, h19]
                clear h16 h19
                clear hd
                have d0 : w'.cell? ⟨P.pp, 0, none⟩ = some (.pointer (some ⟨P.pm, 0, none⟩)) := (HPB.out.fr hR (by simp)).cell (i := 0) rfl
                go_wp2
                exact ⟨Fr.refl _ _, rfl⟩
              · intro σ w' hR hd
                simp only [fill, Nat.reduceAdd, if_true, Bool.false_eq_true, if_false]
                obtain h16 : σ 16 = _ := hd 5 (by decide)
                rw [h16]
                clear h16
                clear hd
                go_wp2
                exact ⟨Fr.refl _ _, rfl⟩
              · intro σ w' hR hd
                simp only [fill, Nat.reduceAdd, if_true, Bool.false_eq_true, if_false]
                obtain h16 : σ 16 = _ := hd 5 (by decide)
                obtain h21 : σ 21 = _ := hd 10 (by decide)
                rw [h16, h21]
                clear h16 h21
                clear hd
                go_wp2
                exact ⟨Fr.refl _ _, rfl⟩
              · intro σ w' hR hd
                simp only [fill, Nat.reduceAdd, if_true, Bool.false_eq_true, if_false]
                obtain h16 : σ 16 = _ := hd 5 (by decide)
                obtain h22 : σ 22 = _ := hd 11 (by decide)
                rw [h16, h22]
                clear h16 h22
                clear hd
                go_wp2
                exact ⟨Fr.refl _ _, rfl⟩
              · intro σ w' hR hd
                simp only [fill, Nat.reduceAdd, if_true, Bool.false_eq_true, if_false]
                obtain h16 : σ 16 = _ := hd 5 (by decide)
                obtain h23 : σ 23 = _ := hd 12 (by decide)
                rw [h16, h23]
                clear h16 h23
                clear hd
                have d1 : w'.cell? ⟨bx, 1, none⟩ = some (.string x.de.q.name) := (HBX.out.fr hR (by simp)).cell (i := 1) rfl
                have d2 : w'.cell? ⟨bx, 2, none⟩ = some (.int .u16 x.de.q.ty) := (HBX.out.fr hR (by simp)).cell (i := 2) rfl
                have d3 : w'.cell? ⟨bx, 3, none⟩ = some (.int .u16 x.de.q.cl) := (HBX.out.fr hR (by simp)).cell (i := 3) rfl
                go_wp2
                exact ⟨Fr.refl _ _, rfl⟩
              · intro σ w' hR hd
                simp only [fill, Nat.reduceAdd, if_true, Bool.false_eq_true, if_false]
                obtain h16 : σ 16 = _ := hd 5 (by decide)
                obtain h20 : σ 20 = _ := hd 9 (by decide)
                obtain h24 : σ 24 = _ := hd 13 (by decide)
                rw [h16, h20, h24]
                clear h16 h20 h24
                clear hd
                have hm4 := HMM.out.fr hR (by simp) (by simp)
                go_wp2_with fail
                refine (has_calls hm4 x.de.q).mono ?_
                rintro r w4 ⟨rfl, hf0⟩
                have hf4 := Hd.mk hf0
                clear hf0
                rw [HIS.out]
                go_wp2
                exact ⟨hf4.out, rfl⟩
              · intro σ w' hR hd
                simp only [fill, Nat.reduceAdd, if_true, Bool.false_eq_true, if_false]
                obtain h16 : σ 16 = _ := hd 5 (by decide)
                obtain h25 : σ 25 = _ := hd 14 (by decide)
                rw [h16, h25]
                clear h16 h25
                clear hd
                go_wp2
                exact ⟨Fr.refl _ _, rfl⟩
              · intro σ w' hR hd
                simp only [fill, Nat.reduceAdd, if_true, Bool.false_eq_true, if_false]
                obtain h16 : σ 16 = _ := hd 5 (by decide)
                obtain h26 : σ 26 = _ := hd 15 (by decide)
                rw [h16, h26]
                clear h16 h26
                clear hd
                go_wp2
                exact ⟨Fr.refl _ _, rfl⟩
              · intro σ w' hR hd
                simp only [fill, Nat.reduceAdd, if_true, Bool.false_eq_true, if_false]
                obtain h27 : σ 27 = _ := hd 16 (by decide)
                rw [h27]
                clear h27
                clear hd
                go_wp2
                exact ⟨Fr.refl _ _, rfl⟩
              · intro σ w' hR hd
                simp only [fill, Nat.reduceAdd, if_true, Bool.false_eq_true, if_false]
                obtain h28 : σ 28 = _ := hd 17 (by decide)
                rw [h28]
                clear h28
                clear hd
                go_wp2
                exact ⟨Fr.refl _ _, rfl⟩
              · intro σ w' hR hd
                simp only [fill, Nat.reduceAdd, if_true, Bool.false_eq_true, if_false]
                obtain h28 : σ 28 = _ := hd 17 (by decide)
                obtain h29 : σ 29 = _ := hd 18 (by decide)
                rw [h28, h29]
                clear h28 h29
                clear hd
                go_wp2
                exact ⟨Fr.refl _ _, rfl⟩
              · intro σ w' hR hd
                simp only [fill, Nat.reduceAdd, if_true, Bool.false_eq_true, if_false]
                obtain h28 : σ 28 = _ := hd 17 (by decide)
                obtain h30 : σ 30 = _ := hd 19 (by decide)
                rw [h28, h30]
                clear h28 h30
                clear hd
                go_wp2
                exact ⟨Fr.refl _ _, rfl⟩
              · intro σ w' hR hd
                simp only [fill, Nat.reduceAdd, if_true, Bool.false_eq_true, if_false]
                obtain h28 : σ 28 = _ := hd 17 (by decide)
                obtain h31 : σ 31 = _ := hd 20 (by decide)
                rw [h28, h31]
                clear h28 h31
                clear hd
                have d7 : w'.cell? ⟨bx, 7, none⟩ = some (.int .u64 x.de.expire) := (HBX.out.fr hR (by simp)).cell (i := 7) rfl
                go_wp2
                exact ⟨Fr.refl _ _, rfl⟩
              · intro σ w' hR hd
                simp only [fill, Nat.reduceAdd, if_true, Bool.false_eq_true, if_false]
                obtain h28 : σ 28 = _ := hd 17 (by decide)
                rw [h28]
                clear h28
                clear hd
                go_wp2
                exact ⟨Fr.refl _ _, rfl⟩
              · intro σ w' hR hd
                simp only [fill, Nat.reduceAdd, if_true, Bool.false_eq_true, if_false]
                obtain h28 : σ 28 = _ := hd 17 (by decide)
                obtain h33 : σ 33 = _ := hd 22 (by decide)
                rw [h28, h33]
                clear h28 h33
                clear hd
                go_wp2
                exact ⟨Fr.refl _ _, rfl⟩
              · intro σ w' hR hd
                simp only [fill, Nat.reduceAdd, if_true, Bool.false_eq_true, if_false]
                obtain h28 : σ 28 = _ := hd 17 (by decide)
                obtain h34 : σ 34 = _ := hd 23 (by decide)
                rw [h28, h34]
                clear h28 h34
                clear hd
                have d8 : w'.cell? ⟨bx, 8, none⟩ = some (.int .u64 x.now) := (HBX.out.fr hR (by simp)).cell (i := 8) rfl
                go_wp2
                exact ⟨Fr.refl _ _, rfl⟩
              · intro σ w' hR hd
                simp only [fill, Nat.reduceAdd, if_true, Bool.false_eq_true, if_false]
                obtain h28 : σ 28 = _ := hd 17 (by decide)
                obtain h32 : σ 32 = _ := hd 21 (by decide)
                obtain h35 : σ 35 = _ := hd 24 (by decide)
                rw [h28, h32, h35]
                clear h28 h32 h35
                clear hd
                go_wp2_with fail
                refine (live_calls _ _ _).mono ?_
                rintro r w4 ⟨rfl, rfl⟩
                rw [HLV.out]
                go_wp2
                exact ⟨Fr.refl _ _, rfl⟩
              · intro σ w' hR hd
                simp only [fill, Nat.reduceAdd, if_true, Bool.false_eq_true, if_false]
                obtain h28 : σ 28 = _ := hd 17 (by decide)
                obtain h36 : σ 36 = _ := hd 25 (by decide)
                rw [h28, h36]
                clear h28 h36
                clear hd
                go_wp2
                exact ⟨Fr.refl _ _, rfl⟩
              · intro σ w' hR hd
                simp only [fill, Nat.reduceAdd, if_true, Bool.false_eq_true, if_false]
                obtain h37 : σ 37 = _ := hd 26 (by decide)
                rw [h37]
                clear h37
                clear hd
                go_wp2
                exact ⟨Fr.refl _ _, rfl⟩
            · intro σ w3 hR hG hH
              obtain h5 : σ 5 = _ := hG 27 (by decide)
              simp only [fill, Nat.reduceAdd, if_true, Bool.false_eq_true, if_false, h5]
              clear h5
              clear hG
              have HF3 := Hd.mk ((Fr.refl [] w2).drew.trans hR)
              clear hR
              go_wp2_with fail
              go_meet
              case rel => exact ⟨HF3.out, by rw [HRV.out]⟩
          | true =>
            have HRV : Hd (rb = true) := Hd.mk (by rw [← HRB.out]; unfold roomB; rw [hfu, his, hlv]; rfl)
            have HLV := Hd.mk hlv
            clear hfu his hlv
            go_wp2_with fail
            refine wp_region_gs { R := Fr [], R1 := Fr [], gs := [Is (.pointer (some ⟨P.pp, 0, none⟩)), Is (.pointer (some ⟨P.pp, 0, none⟩)), Is (.pointer (some ⟨P.pp, 0, none⟩)), Is (.pointer (some ⟨P.pm, 0, none⟩)), Is (.bool true), Is (.bool true), Is (.pointer (some ⟨P.pp, 0, none⟩)), Is (.pointer (some ⟨P.pp, 0, none⟩)), Is (.pointer (some ⟨P.pp, 0, none⟩)), Is (.pointer (some ⟨P.pm, 0, none⟩)), Is (.pointer (some ⟨bx, 0, none⟩)), Is (.pointer (some ⟨bx, 1, none⟩)), Is (.pointer (some ⟨bx, 1, none⟩)), Is (.agg #[.string x.de.q.name, .int .u16 x.de.q.ty, .int .u16 x.de.q.cl]), Is (.bool false), Is (.bool true), Is (.bool true), Is (.bool true), Is (.pointer (some ⟨bx, 0, none⟩)), Is (.pointer (some ⟨bx, 1, none⟩)), Is (.pointer (some ⟨bx, 7, none⟩)), Is (.int .u64 x.de.expire), Is (.pointer (some ⟨bx, 0, none⟩)), Is (.pointer (some ⟨bx, 8, none⟩)), Is (.int .u64 x.now), Is (.bool true), Is (.bool true), Is (.bool true)], ds := [some 11, some 12, some 13, some 14, some 15, some 16, some 17, some 18, some 19, some 20, some 21, some 22, some 23, some 24, some 25, some 26, some 27, some 28, some 29, some 30, some 31, some 32, some 33, some 34, some 35, some 36, some 37, some 5], fl := [false, false, false, false, false, false, false, false, false, false, false, false, false, false, false, false, false, false, false, false, false, false, false, false, false, false, false, false], hs := [], hd := [] } [false, false, false, false, false, true, false, false, false, false, false, true, true, true, true, true, true, true, true, true, true, true, true, true, true, true, true, true, true, true, true, true, true, true, true, true, true, true, false, false, false, false, false, false, false, false, false, false, false, false, false, false, false, false, false, false, false, false, false, false, false, false, false, false, false, false, false, false, false, false, false, false, false, false, false, false, false, false, false, false, false, false, false, false, false, false, false, false, false, false, false, false, false, false, false, false, false, false, false, false, false, false, false, false, false] (by kernel_rfl) _ (by kernel_rfl) (by kernel_rfl) (by kernel_rfl) (by kernel_rfl) rfl [] (fun _ _ _ h1 h2 => h1.trans h2) (fun _ _ h => h) (staI (staI (staI (staI (staI (staI (staI (staI (staI (staI (staI (staI (staI (staI (staI (staI (staI (staI (staI (staI (staI (staI (staI (staI (staI (staI (staI (staI sta0)))))))))))))))))))))))))))) sth0 (fun _ _ h => h.size) _ (Fr.refl _ _) trivial ?_ ?_
            · refine ⟨?_, ?_, ?_, ?_, ?_, ?_, ?_, ?_, ?_, ?_, ?_, ?_, ?_, ?_, ?_, ?_, ?_, ?_, ?_, ?_, ?_, ?_, ?_, ?_, ?_, ?_, ?_, ?_, trivial⟩
              · intro σ w' hR hd
                simp only [fill, Nat.reduceAdd, if_true, Bool.false_eq_true, if_false]
                clear hd
                go_wp2
                exact ⟨Fr.refl _ _, rfl⟩
              · intro σ w' hR hd
                simp only [fill, Nat.reduceAdd, if_true, Bool.false_eq_true, if_false]
                obtain h11 : σ 11 = _ := hd 0 (by decide)
                rw [h11]
                clear h11
                clear hd
                go_wp2
                exact ⟨Fr.refl _ _, rfl⟩
              · intro σ w' hR hd
                simp only [fill, Nat.reduceAdd, if_true, Bool.false_eq_true, if_false]
                obtain h12 : σ 12 = _ := hd 1 (by decide)
                rw [h12]
                clear h12
                clear hd
                go_wp2
                exact ⟨Fr.refl _ _, rfl⟩
              · intro σ w' hR hd
                simp only [fill, Nat.reduceAdd, if_true, Bool.false_eq_true, if_false]
                obtain h13 : σ 13 = _ := hd 2 (by decide)
                rw [h13]
                clear h13
                clear hd
                have d0 : w'.cell? ⟨P.pp, 0, none⟩ = some (.pointer (some ⟨P.pm, 0, none⟩)) := (HPB.out.fr hR (by simp)).cell (i := 0) rfl
                go_wp2
                exact ⟨Fr.refl _ _, rfl⟩
              · intro σ w' hR hd
                simp only [fill, Nat.reduceAdd, if_true, Bool.false_eq_true, if_false]
                obtain h14 : σ 14 = _ := hd 3 (by decide)
                rw [h14]
                clear h14
                clear hd
                have hm4 := HMM.out.fr hR (by simp) (by simp)
                go_wp2_with fail
                refine (full_calls hm4).mono ?_
                rintro r w4 ⟨rfl, hf0⟩
                have hf4 := Hd.mk hf0
                clear hf0
                rw [HFU.out]
                go_wp2
                exact ⟨hf4.out, rfl⟩
              · intro σ w' hR hd
                simp only [fill, Nat.reduceAdd, if_true, Bool.false_eq_true, if_false]
                obtain h15 : σ 15 = _ := hd 4 (by decide)
                rw [h15]
                clear h15
                clear hd
                go_wp2
                exact ⟨Fr.refl _ _, rfl⟩
              · intro σ w' hR hd
                simp only [fill, Nat.reduceAdd, if_true, Bool.false_eq_true, if_false]
                obtain h16 : σ 16 = _ := hd 5 (by decide)
                rw [h16]
                clear h16
                clear hd
                go_wp2
                exact ⟨Fr.refl _ _, rfl⟩
              · intro σ w' hR hd
                simp only [fill, Nat.reduceAdd, if_true, Bool.false_eq_true, if_false]
                obtain h16 : σ 16 = _ := hd 5 (by decide)
                obtain h17 : σ 17 = _ := hd 6 (by decide)
                rw [h16, h17]
                clear h16 h17
                clear hd
                go_wp2
                exact ⟨Fr.refl _ _, rfl⟩
              · intro σ w' hR hd
                simp only [fill, Nat.reduceAdd, if_true, Bool.false_eq_true, if_false]
                obtain h16 : σ 16 = _ := hd 5 (by decide)
                obtain h18 : σ 18 = _ := hd 7 (by decide)
                rw [h16, h18]
                clear h16 h18
                clear hd
                go_wp2
                exact ⟨Fr.refl _ _, rfl⟩
              · intro σ w' hR hd
                simp only [fill, Nat.reduceAdd, if_true, Bool.false_eq_true, if_false]
                obtain h16 : σ 16 = _ := hd 5 (by decide)
                obtain h19 : σ 19 = _ := hd 8 (by decide)
                rw [h16, h19]
                clear h16 h19
                clear hd
                have d0 : w'.cell? ⟨P.pp, 0, none⟩ = some (.pointer (some ⟨P.pm, 0, none⟩)) := (HPB.out.fr hR (by simp)).cell (i := 0) rfl
                go_wp2
                exact ⟨Fr.refl _ _, rfl⟩
              · intro σ w' hR hd
                simp only [fill, Nat.reduceAdd, if_true, Bool.false_eq_true, if_false]
                obtain h16 : σ 16 = _ := hd 5 (by decide)
                rw [h16]
                clear h16
                clear hd
                go_wp2
                exact ⟨Fr.refl _ _, rfl⟩
              · intro σ w' hR hd
                simp only [fill, Nat.reduceAdd, if_true, Bool.false_eq_true, if_false]
                obtain h16 : σ 16 = _ := hd 5 (by decide)
                obtain h21 : σ 21 = _ := hd 10 (by decide)
                rw [h16, h21]
                clear h16 h21
                clear hd
                go_wp2
                exact ⟨Fr.refl _ _, rfl⟩
              · intro σ w' hR hd
                simp only [fill, Nat.reduceAdd, if_true, Bool.false_eq_true, if_false]
                obtain h16 : σ 16 = _ := hd 5 (by decide)
                obtain h22 : σ 22 = _ := hd 11 (by decide)
                rw [h16, h22]
                clear h16 h22
                clear hd
                go_wp2
                exact ⟨Fr.refl _ _, rfl⟩
              · intro σ w' hR hd
                simp only [fill, Nat.reduceAdd, if_true, Bool.false_eq_true, if_false]
                obtain h16 : σ 16 = _ := hd 5 (by decide)
                obtain h23 : σ 23 = _ := hd 12 (by decide)
                rw [h16, h23]
                clear h16 h23
                clear hd
                have d1 : w'.cell? ⟨bx, 1, none⟩ = some (.string x.de.q.name) := (HBX.out.fr hR (by simp)).cell (i := 1) rfl
                have d2 : w'.cell? ⟨bx, 2, none⟩ = some (.int .u16 x.de.q.ty) := (HBX.out.fr hR (by simp)).cell (i := 2) rfl
                have d3 : w'.cell? ⟨bx, 3, none⟩ = some (.int .u16 x.de.q.cl) := (HBX.out.fr hR (by simp)).cell (i := 3) rfl
                go_wp2
                exact ⟨Fr.refl _ _, rfl⟩
              · intro σ w' hR hd
                simp only [fill, Nat.reduceAdd, if_true, Bool.false_eq_true, if_false]
                obtain h16 : σ 16 = _ := hd 5 (by decide)
                obtain h20 : σ 20 = _ := hd 9 (by decide)
                obtain h24 : σ 24 = _ := hd 13 (by decide)
                rw [h16, h20, h24]
                clear h16 h20 h24
                clear hd
                have hm4 := HMM.out.fr hR (by simp) (by simp)
                go_wp2_with fail
                refine (has_calls hm4 x.de.q).mono ?_
                rintro r w4 ⟨rfl, hf0⟩
                have hf4 := Hd.mk hf0
                clear hf0
                rw [HIS.out]
                go_wp2
                exact ⟨hf4.out, rfl⟩
              · intro σ w' hR hd
                simp only [fill, Nat.reduceAdd, if_true, Bool.false_eq_true, if_false]
                obtain h16 : σ 16 = _ := hd 5 (by decide)
                obtain h25 : σ 25 = _ := hd 14 (by decide)
                rw [h16, h25]
                clear h16 h25
                clear hd
                go_wp2
                exact ⟨Fr.refl _ _, rfl⟩
              · intro σ w' hR hd
                simp only [fill, Nat.reduceAdd, if_true, Bool.false_eq_true, if_false]
                obtain h16 : σ 16 = _ := hd 5 (by decide)
                obtain h26 : σ 26 = _ := hd 15 (by decide)
                rw [h16, h26]
                clear h16 h26
                clear hd
                go_wp2
                exact ⟨Fr.refl _ _, rfl⟩
              · intro σ w' hR hd
                simp only [fill, Nat.reduceAdd, if_true, Bool.false_eq_true, if_false]
                obtain h27 : σ 27 = _ := hd 16 (by decide)
                rw [h27]
                clear h27
                clear hd
                go_wp2
                exact ⟨Fr.refl _ _, rfl⟩
              · intro σ w' hR hd
                simp only [fill, Nat.reduceAdd, if_true, Bool.false_eq_true, if_false]
                obtain h28 : σ 28 = _ := hd 17 (by decide)
                rw [h28]
                clear h28
                clear hd
                go_wp2
                exact ⟨Fr.refl _ _, rfl⟩
              · intro σ w' hR hd
                simp only [fill, Nat.reduceAdd, if_true, Bool.false_eq_true, if_false]
                obtain h28 : σ 28 = _ := hd 17 (by decide)
                obtain h29 : σ 29 = _ := hd 18 (by decide)
                rw [h28, h29]
                clear h28 h29
                clear hd
                go_wp2
                exact ⟨Fr.refl _ _, rfl⟩
              · intro σ w' hR hd
                simp only [fill, Nat.reduceAdd, if_true, Bool.false_eq_true, if_false]
                obtain h28 : σ 28 = _ := hd 17 (by decide)
                obtain h30 : σ 30 = _ := hd 19 (by decide)
                rw [h28, h30]
                clear h28 h30
                clear hd
                go_wp2
                exact ⟨Fr.refl _ _, rfl⟩
              · intro σ w' hR hd
                simp only [fill, Nat.reduceAdd, if_true, Bool.false_eq_true, if_false]
                obtain h28 : σ 28 = _ := hd 17 (by decide)
                obtain h31 : σ 31 = _ := hd 20 (by decide)
                rw [h28, h31]
                clear h28 h31
                clear hd
                have d7 : w'.cell? ⟨bx, 7, none⟩ = some (.int .u64 x.de.expire) := (HBX.out.fr hR (by simp)).cell (i := 7) rfl
                go_wp2
                exact ⟨Fr.refl _ _, rfl⟩
              · intro σ w' hR hd
                simp only [fill, Nat.reduceAdd, if_true, Bool.false_eq_true, if_false]
                obtain h28 : σ 28 = _ := hd 17 (by decide)
                rw [h28]
                clear h28
                clear hd
                go_wp2
                exact ⟨Fr.refl _ _, rfl⟩
              · intro σ w' hR hd
                simp only [fill, Nat.reduceAdd, if_true, Bool.false_eq_true, if_false]
                obtain h28 : σ 28 = _ := hd 17 (by decide)
                obtain h33 : σ 33 = _ := hd 22 (by decide)
                rw [h28, h33]
                clear h28 h33
                clear hd
                go_wp2
                exact ⟨Fr.refl _ _, rfl⟩
              · intro σ w' hR hd
                simp only [fill, Nat.reduceAdd, if_true, Bool.false_eq_true, if_false]
                obtain h28 : σ 28 = _ := hd 17 (by decide)
                obtain h34 : σ 34 = _ := hd 23 (by decide)
                rw [h28, h34]
                clear h28 h34
                clear hd
                have d8 : w'.cell? ⟨bx, 8, none⟩ = some (.int .u64 x.now) := (HBX.out.fr hR (by simp)).cell (i := 8) rfl
                go_wp2
                exact ⟨Fr.refl _ _, rfl⟩
              · intro σ w' hR hd
                simp only [fill, Nat.reduceAdd, if_true, Bool.false_eq_true, if_false]
                obtain h28 : σ 28 = _ := hd 17 (by decide)
                obtain h32 : σ 32 = _ := hd 21 (by decide)
                obtain h35 : σ 35 = _ := hd 24 (by decide)
                rw [h28, h32, h35]
                clear h28 h32 h35
                clear hd
                go_wp2_with fail
                refine (live_calls _ _ _).mono ?_
                rintro r w4 ⟨rfl, rfl⟩
                rw [HLV.out]
                go_wp2
                exact ⟨Fr.refl _ _, rfl⟩
              · intro σ w' hR hd
                simp only [fill, Nat.reduceAdd, if_true, Bool.false_eq_true, if_false]
                obtain h28 : σ 28 = _ := hd 17 (by decide)
                obtain h36 : σ 36 = _ := hd 25 (by decide)
                rw [h28, h36]
                clear h28 h36
                clear hd
                go_wp2
                exact ⟨Fr.refl _ _, rfl⟩
              · intro σ w' hR hd
                simp only [fill, Nat.reduceAdd, if_true, Bool.false_eq_true, if_false]
                obtain h37 : σ 37 = _ := hd 26 (by decide)
                rw [h37]
                clear h37
                clear hd
                go_wp2
                exact ⟨Fr.refl _ _, rfl⟩
            · intro σ w3 hR hG hH
              obtain h5 : σ 5 = _ := hG 27 (by decide)
              simp only [fill, Nat.reduceAdd, if_true, Bool.false_eq_true, if_false, h5]
              clear h5
              clear hG
              have HF3 := Hd.mk ((Fr.refl [] w2).drew.trans hR)
              clear hR
              go_wp2_with fail
              go_meet
              case rel => exact ⟨HF3.out, by rw [HRV.out]⟩
    case rest =>
      obtain ⟨hfc, rfl⟩ := hcut
      have HF3 := Hd.mk (HF2.out.trans hfc)
      have HPT3 := Hd.mk (HPT2.out.fr0 hfc)
      have HBX3 := Hd.mk (HBX2.out.fr hfc (by simp))
      clear hfc HF2 HPT2 HBX2
      obtain ⟨wc', hwc⟩ : ∃ y, wc = y := ⟨_, rfl⟩
      rw [hwc] at HF3 HPT3 HBX3 ⊢
      clear hwc
      go_upto_block 0 with (fail)
      go_cut [] from 8 (fun wd => Fr [] wc' wd ∧ insOkB (rho w0) s P.room x = true)
      case first =>
        cases rb with
        | true =>
          have c8 : wc'.cell? ⟨bx, 8, none⟩ = some (.int .u64 x.now) := HBX3.out.cell (i := 8) rfl
          have c18 : wc'.cell? ⟨bx, 18, none⟩ = some (.int .i64 x.err) := HBX3.out.cell (i := 18) rfl
          have c19 : wc'.cell? ⟨bx, 19, none⟩ = some (.slice ga x.G.length x.gc) := HBX3.out.cell (i := 19) HC19.out
          by_cases he : x.err = 0
          · rw [he] at c18
            have HER : Hd (decide (x.err = 0) = true) := Hd.mk (decide_eq_true he)
            clear he
            go_wp2_with fail
            refine (may_calls HPT3.out HE.out (HG.out.fr (H0.out.trans HF3.out)) x.now).mono ?_
            rintro r w4 ⟨rfl, hf4⟩
            obtain ⟨mb, hmb⟩ : ∃ b, mayB s x.G x.now = b := ⟨_, rfl⟩
            rw [hmb]
            have HMB := Hd.mk hmb
            have HPT4 := Hd.mk (HPT3.out.fr0 hf4)
            have HBX4 := Hd.mk (HBX3.out.fr hf4 (by simp))
            have HF4 := Hd.mk (HF3.out.trans hf4)
            have HFC := Hd.mk hf4
            clear hmb hf4 c8 c18 c19
            cases mb with
            | false =>
              have HGO := Hd.mk (ins_no (ρ := rho w0) (s := s) (m := P.room) (x := x) (by unfold insOkB; rw [HBA.out, HRB.out, HER.out, HMB.out]; simp))
              go_wp2
              go_ret
              exact ⟨by rw [HGO.out.1]; rfl, by rw [HGO.out.2]; exact HPT4.out, HF4.out.mono (by simp)⟩
            | true =>
              have HYES : Hd (insOkB (rho w0) s P.room x = true) := Hd.mk (by unfold insOkB; rw [HBA.out, HRB.out, HER.out, HMB.out]; rfl)
              go_wp2_with fail
              have HBX := Hd.mk HBX4.out.drew
              have HPT : Hd (PtAt w4.drew P s) := Hd.mk (HPT4.out.fr0 (Fr.refl [] w4).drew)
              refine wp_region_gs { R := Fr [], R1 := Fr [], gs := [Is (.bool true), Is (.bool false), Is (.bool false), No, No, No, No, No, No, No, No, No, No, No, Is undef, No, No, No, No, No, Is (.bool false), Is (.bool false)], ds := [some 56, some 57, some 58, some 59, some 60, some 61, some 62, some 63, some 64, some 65, some 66, some 67, some 68, some 69, some 70, some 71, some 72, some 73, some 74, some 75, some 76, some 55], fl := [false, false, false, false, false, false, false, false, false, false, false, false, false, false, false, false, false, false, false, false, false, false], hs := [], hd := [] } [false, false, false, false, false, false, false, false, false, false, false, false, false, false, false, false, false, false, false, false, false, false, false, false, false, false, false, false, false, false, false, false, false, false, false, false, false, false, false, false, false, false, false, false, false, false, false, false, false, false, false, false, false, false, false, true, true, true, true, true, true, true, true, true, true, true, true, true, true, true, true, true, true, true, true, true, true, false, false, false, false, false, false, false, false, false, false, false, false, false, false, false, false, false, false, false, false, false, false, false, false, false, false, false, false] (by kernel_rfl) _ (by kernel_rfl) (by kernel_rfl) (by kernel_rfl) (by kernel_rfl) rfl [] (fun _ _ _ h1 h2 => h1.trans h2) (fun _ _ h => h) (staI (staI (staI (staN (staN (staN (staN (staN (staN (staN (staN (staN (staN (staN (staI (staN (staN (staN (staN (staN (staI (staI sta0)))))))))))))))))))))) sth0 (fun _ _ h => h.size) _ (Fr.refl _ _) trivial ?_ ?_
              · refine ⟨?_, ?_, ?_, ?_, ?_, ?_, ?_, ?_, ?_, ?_, ?_, ?_, ?_, ?_, ?_, ?_, ?_, ?_, ?_, ?_, ?_, ?_, trivial⟩
                · intro σ w' hR hd
                  simp only [fill, Nat.reduceAdd, if_true, Bool.false_eq_true, if_false]
                  clear hd
                  go_wp2
                  exact ⟨Fr.refl _ _, rfl⟩
                · intro σ w' hR hd
                  simp only [fill, Nat.reduceAdd, if_true, Bool.false_eq_true, if_false]
                  obtain h56 : σ 56 = _ := hd 0 (by decide)
                  rw [h56]
                  clear h56
                  clear hd
                  go_wp2
                  exact ⟨Fr.refl _ _, rfl⟩
                · intro σ w' hR hd
                  simp only [fill, Nat.reduceAdd, if_true, Bool.false_eq_true, if_false]
                  obtain h57 : σ 57 = _ := hd 1 (by decide)
                  rw [h57]
                  clear h57
                  clear hd
                  go_wp2
                  exact ⟨Fr.refl _ _, rfl⟩
                · intro σ w' hR hd
                  simp only [fill, Nat.reduceAdd, if_true, Bool.false_eq_true, if_false]
                  obtain h58 : σ 58 = _ := hd 2 (by decide)
                  rw [h58]
                  clear h58
                  clear hd
                  go_wp2
                  exact ⟨Fr.refl _ _, trivial⟩
                · intro σ w' hR hd
                  simp only [fill, Nat.reduceAdd, if_true, Bool.false_eq_true, if_false]
                  obtain h58 : σ 58 = _ := hd 2 (by decide)
                  rw [h58]
                  clear h58
                  clear hd
                  go_wp2
                  exact ⟨Fr.refl _ _, trivial⟩
                · intro σ w' hR hd
                  simp only [fill, Nat.reduceAdd, if_true, Bool.false_eq_true, if_false]
                  obtain h58 : σ 58 = _ := hd 2 (by decide)
                  rw [h58]
                  clear h58
                  clear hd
                  go_wp2
                  exact ⟨Fr.refl _ _, trivial⟩
                · intro σ w' hR hd
                  simp only [fill, Nat.reduceAdd, if_true, Bool.false_eq_true, if_false]
                  obtain h58 : σ 58 = _ := hd 2 (by decide)
                  rw [h58]
                  clear h58
                  clear hd
                  go_wp2
                  exact ⟨Fr.refl _ _, trivial⟩
                · intro σ w' hR hd
                  simp only [fill, Nat.reduceAdd, if_true, Bool.false_eq_true, if_false]
                  obtain h58 : σ 58 = _ := hd 2 (by decide)
                  rw [h58]
                  clear h58
                  clear hd
                  go_wp2
                  exact ⟨Fr.refl _ _, trivial⟩
                · intro σ w' hR hd
                  simp only [fill, Nat.reduceAdd, if_true, Bool.false_eq_true, if_false]
                  obtain h58 : σ 58 = _ := hd 2 (by decide)
                  rw [h58]
                  clear h58
                  clear hd
                  go_wp2
                  exact ⟨Fr.refl _ _, trivial⟩
                · intro σ w' hR hd
                  simp only [fill, Nat.reduceAdd, if_true, Bool.false_eq_true, if_false]
                  obtain h58 : σ 58 = _ := hd 2 (by decide)
                  rw [h58]
                  clear h58
                  clear hd
                  go_wp2
                  exact ⟨Fr.refl _ _, trivial⟩
                · intro σ w' hR hd
                  simp only [fill, Nat.reduceAdd, if_true, Bool.false_eq_true, if_false]
                  obtain h58 : σ 58 = _ := hd 2 (by decide)
                  rw [h58]
                  clear h58
                  clear hd
                  go_wp2
                  exact ⟨Fr.refl _ _, trivial⟩
                · intro σ w' hR hd
                  simp only [fill, Nat.reduceAdd, if_true, Bool.false_eq_true, if_false]
                  obtain h58 : σ 58 = _ := hd 2 (by decide)
                  rw [h58]
                  clear h58
                  clear hd
                  go_wp2
                  exact ⟨Fr.refl _ _, trivial⟩
                · intro σ w' hR hd
                  simp only [fill, Nat.reduceAdd, if_true, Bool.false_eq_true, if_false]
                  obtain h58 : σ 58 = _ := hd 2 (by decide)
                  rw [h58]
                  clear h58
                  clear hd
                  go_wp2
                  exact ⟨Fr.refl _ _, trivial⟩
                · intro σ w' hR hd
                  simp only [fill, Nat.reduceAdd, if_true, Bool.false_eq_true, if_false]
                  obtain h58 : σ 58 = _ := hd 2 (by decide)
                  rw [h58]
                  clear h58
                  clear hd
                  go_wp2
                  exact ⟨Fr.refl _ _, trivial⟩
                · intro σ w' hR hd
                  simp only [fill, Nat.reduceAdd, if_true, Bool.false_eq_true, if_false]
                  obtain h58 : σ 58 = _ := hd 2 (by decide)
                  rw [h58]
                  clear h58
                  clear hd
                  go_wp2
                  exact ⟨Fr.refl _ _, rfl⟩
                · intro σ w' hR hd
                  simp only [fill, Nat.reduceAdd, if_true, Bool.false_eq_true, if_false]
                  obtain h70 : σ 70 = _ := hd 14 (by decide)
                  rw [h70]
                  clear h70
                  clear hd
                  go_wp2
                  exact ⟨Fr.refl _ _, trivial⟩
                · intro σ w' hR hd
                  simp only [fill, Nat.reduceAdd, if_true, Bool.false_eq_true, if_false]
                  obtain h70 : σ 70 = _ := hd 14 (by decide)
                  rw [h70]
                  clear h70
                  clear hd
                  go_wp2
                  exact ⟨Fr.refl _ _, trivial⟩
                · intro σ w' hR hd
                  simp only [fill, Nat.reduceAdd, if_true, Bool.false_eq_true, if_false]
                  obtain h70 : σ 70 = _ := hd 14 (by decide)
                  rw [h70]
                  clear h70
                  clear hd
                  go_wp2
                  exact ⟨Fr.refl _ _, trivial⟩
                · intro σ w' hR hd
                  simp only [fill, Nat.reduceAdd, if_true, Bool.false_eq_true, if_false]
                  obtain h70 : σ 70 = _ := hd 14 (by decide)
                  rw [h70]
                  clear h70
                  clear hd
                  go_wp2
                  exact ⟨Fr.refl _ _, trivial⟩
                · intro σ w' hR hd
                  simp only [fill, Nat.reduceAdd, if_true, Bool.false_eq_true, if_false]
                  obtain h58 : σ 58 = _ := hd 2 (by decide)
                  rw [h58]
                  clear h58
                  clear hd
                  go_wp2
                  exact ⟨Fr.refl _ _, trivial⟩
                · intro σ w' hR hd
                  simp only [fill, Nat.reduceAdd, if_true, Bool.false_eq_true, if_false]
                  obtain h58 : σ 58 = _ := hd 2 (by decide)
                  rw [h58]
                  clear h58
                  clear hd
                  go_wp2
                  exact ⟨Fr.refl _ _, rfl⟩
                · intro σ w' hR hd
                  simp only [fill, Nat.reduceAdd, if_true, Bool.false_eq_true, if_false]
                  obtain h76 : σ 76 = _ := hd 20 (by decide)
                  rw [h76]
                  clear h76
                  clear hd
                  go_wp2
                  exact ⟨Fr.refl _ _, rfl⟩
              · intro σ w3 hR hG hH
                obtain h55 : σ 55 = _ := hG 21 (by decide)
                simp only [fill, Nat.reduceAdd, if_true, Bool.false_eq_true, if_false, h55]
                clear h55
                clear hG
                have HF6 := Hd.mk ((Fr.refl [] w4).drew.trans hR)
                clear hR
                go_wp2_with fail
                go_meet
                case rel => exact ⟨HFC.out.trans HF6.out, HYES.out⟩
          · have HER : Hd (decide (x.err = 0) = false) := Hd.mk (decide_eq_false he)
            have HGO := Hd.mk (ins_no (ρ := rho w0) (s := s) (m := P.room) (x := x) (by unfold insOkB; rw [HBA.out, HRB.out, HER.out]; simp))
            go_wp2
            go_ret
            exact ⟨by rw [HGO.out.1]; rfl, by rw [HGO.out.2]; exact HPT3.out, HF3.out.mono (by simp)⟩
        | false =>
          obtain ⟨wy, hwy⟩ : ∃ y, whyC s x.de x.now = y := ⟨_, rfl⟩
          have HWY := Hd.mk hwy
          by_cases he : x.err = wy
          · have HER : Hd ((x.err != wy) = false) := Hd.mk (by rw [he]; simp)
            have HER' : Hd (decide (x.err = wy) = true) := Hd.mk (decide_eq_true he)
            by_cases hl : x.G.length = 0
            · have HLN : Hd (decide (0 < x.G.length) = false) := Hd.mk (decide_eq_false (by omega))
              have HYES : Hd (insOkB (rho w0) s P.room x = true) := Hd.mk (by unfold insOkB; rw [HBA.out, HRB.out, HWY.out, HER'.out, decide_eq_true hl]; rfl)
              clear hwy he hl
              go_wp2_with fail
              have HBX := Hd.mk HBX3.out.drew
              have HPT : Hd (PtAt wc'.drew P s) := Hd.mk (HPT3.out.fr0 (Fr.refl [] wc').drew)
              refine wp_region_gs { R := Fr [], R1 := Fr [], gs := [Is (.bool false), Is (.bool true), Is (.bool true), Is (.pointer (some ⟨bx, 18, none⟩)), Is (.int .i64 x.err), Is (.pointer (some ⟨P.pp, 0, none⟩)), Is (.pointer (some ⟨bx, 0, none⟩)), Is (.pointer (some ⟨bx, 1, none⟩)), Is (.agg #[.string x.de.q.name, .int .u16 x.de.q.ty, .int .u16 x.de.q.cl, .slice x.de.ra x.de.rn x.de.rc, .int .i64 x.de.rcode, .int .i64 x.de.rank, .int .u64 x.de.expire]), Is (.pointer (some ⟨bx, 0, none⟩)), Is (.pointer (some ⟨bx, 8, none⟩)), Is (.int .u64 x.now), Is (.int .i64 wy), Is (.bool false), Is (.bool false), Is (.pointer (some ⟨bx, 19, none⟩)), Is (.slice ga x.G.length x.gc), Is (.int .i64 x.G.length), Is (.bool false), Is (.bool false), Is (.bool false), Is (.bool false)], ds := [some 56, some 57, some 58, some 59, some 60, some 61, some 62, some 63, some 64, some 65, some 66, some 67, some 68, some 69, some 70, some 71, some 72, some 73, some 74, some 75, some 76, some 55], fl := [false, false, false, false, false, false, false, false, false, false, false, false, false, false, false, false, false, false, false, false, false, false], hs := [], hd := [] } [false, false, false, false, false, false, false, false, false, false, false, false, false, false, false, false, false, false, false, false, false, false, false, false, false, false, false, false, false, false, false, false, false, false, false, false, false, false, false, false, false, false, false, false, false, false, false, false, false, false, false, false, false, false, false, true, true, true, true, true, true, true, true, true, true, true, true, true, true, true, true, true, true, true, true, true, true, false, false, false, false, false, false, false, false, false, false, false, false, false, false, false, false, false, false, false, false, false, false, false, false, false, false, false, false] (by kernel_rfl) _ (by kernel_rfl) (by kernel_rfl) (by kernel_rfl) (by kernel_rfl) rfl [] (fun _ _ _ h1 h2 => h1.trans h2) (fun _ _ h => h) (staI (staI (staI (staI (staI (staI (staI (staI (staI (staI (staI (staI (staI (staI (staI (staI (staI (staI (staI (staI (staI (staI sta0)))))))))))))))))))))) sth0 (fun _ _ h => h.size) _ (Fr.refl _ _) trivial ?_ ?_
              · refine ⟨?_, ?_, ?_, ?_, ?_, ?_, ?_, ?_, ?_, ?_, ?_, ?_, ?_, ?_, ?_, ?_, ?_, ?_, ?_, ?_, ?_, ?_, trivial⟩
                · intro σ w' hR hd
                  simp only [fill, Nat.reduceAdd, if_true, Bool.false_eq_true, if_false]
                  clear hd
                  go_wp2
                  exact ⟨Fr.refl _ _, rfl⟩
                · intro σ w' hR hd
                  simp only [fill, Nat.reduceAdd, if_true, Bool.false_eq_true, if_false]
                  obtain h56 : σ 56 = _ := hd 0 (by decide)
                  rw [h56]
                  clear h56
                  clear hd
                  go_wp2
                  exact ⟨Fr.refl _ _, rfl⟩
                · intro σ w' hR hd
                  simp only [fill, Nat.reduceAdd, if_true, Bool.false_eq_true, if_false]
                  obtain h57 : σ 57 = _ := hd 1 (by decide)
                  rw [h57]
                  clear h57
                  clear hd
                  go_wp2
                  exact ⟨Fr.refl _ _, rfl⟩
                · intro σ w' hR hd
                  simp only [fill, Nat.reduceAdd, if_true, Bool.false_eq_true, if_false]
                  obtain h58 : σ 58 = _ := hd 2 (by decide)
                  rw [h58]
                  clear h58
                  clear hd
                  go_wp2
                  exact ⟨Fr.refl _ _, rfl⟩
                · intro σ w' hR hd
                  simp only [fill, Nat.reduceAdd, if_true, Bool.false_eq_true, if_false]
                  obtain h58 : σ 58 = _ := hd 2 (by decide)
                  obtain h59 : σ 59 = _ := hd 3 (by decide)
                  rw [h58, h59]
                  clear h58 h59
                  clear hd
                  have d18 : w'.cell? ⟨bx, 18, none⟩ = some (.int .i64 x.err) := (HBX.out.fr hR (by simp)).cell (i := 18) rfl
                  go_wp2
                  exact ⟨Fr.refl _ _, rfl⟩
                · intro σ w' hR hd
                  simp only [fill, Nat.reduceAdd, if_true, Bool.false_eq_true, if_false]
                  obtain h58 : σ 58 = _ := hd 2 (by decide)
                  rw [h58]
                  clear h58
                  clear hd
                  go_wp2
                  exact ⟨Fr.refl _ _, rfl⟩
                · intro σ w' hR hd
                  simp only [fill, Nat.reduceAdd, if_true, Bool.false_eq_true, if_false]
                  obtain h58 : σ 58 = _ := hd 2 (by decide)
                  rw [h58]
                  clear h58
                  clear hd
                  go_wp2
                  exact ⟨Fr.refl _ _, rfl⟩
                · intro σ w' hR hd
                  simp only [fill, Nat.reduceAdd, if_true, Bool.false_eq_true, if_false]
                  obtain h58 : σ 58 = _ := hd 2 (by decide)
                  obtain h62 : σ 62 = _ := hd 6 (by decide)
                  rw [h58, h62]
                  clear h58 h62
                  clear hd
                  go_wp2
                  exact ⟨Fr.refl _ _, rfl⟩
                · intro σ w' hR hd
                  simp only [fill, Nat.reduceAdd, if_true, Bool.false_eq_true, if_false]
                  obtain h58 : σ 58 = _ := hd 2 (by decide)
                  obtain h63 : σ 63 = _ := hd 7 (by decide)
                  rw [h58, h63]
                  clear h58 h63
                  clear hd
                  have d1 : w'.cell? ⟨bx, 1, none⟩ = some (.string x.de.q.name) := (HBX.out.fr hR (by simp)).cell (i := 1) rfl
                  have d2 : w'.cell? ⟨bx, 2, none⟩ = some (.int .u16 x.de.q.ty) := (HBX.out.fr hR (by simp)).cell (i := 2) rfl
                  have d3 : w'.cell? ⟨bx, 3, none⟩ = some (.int .u16 x.de.q.cl) := (HBX.out.fr hR (by simp)).cell (i := 3) rfl
                  have d4 : w'.cell? ⟨bx, 4, none⟩ = some (.slice x.de.ra x.de.rn x.de.rc) := (HBX.out.fr hR (by simp)).cell (i := 4) rfl
                  have d5 : w'.cell? ⟨bx, 5, none⟩ = some (.int .i64 x.de.rcode) := (HBX.out.fr hR (by simp)).cell (i := 5) rfl
                  have d6 : w'.cell? ⟨bx, 6, none⟩ = some (.int .i64 x.de.rank) := (HBX.out.fr hR (by simp)).cell (i := 6) rfl
                  have d7 : w'.cell? ⟨bx, 7, none⟩ = some (.int .u64 x.de.expire) := (HBX.out.fr hR (by simp)).cell (i := 7) rfl
                  go_wp2
                  exact ⟨Fr.refl _ _, rfl⟩
                · intro σ w' hR hd
                  simp only [fill, Nat.reduceAdd, if_true, Bool.false_eq_true, if_false]
                  obtain h58 : σ 58 = _ := hd 2 (by decide)
                  rw [h58]
                  clear h58
                  clear hd
                  go_wp2
                  exact ⟨Fr.refl _ _, rfl⟩
                · intro σ w' hR hd
                  simp only [fill, Nat.reduceAdd, if_true, Bool.false_eq_true, if_false]
                  obtain h58 : σ 58 = _ := hd 2 (by decide)
                  obtain h65 : σ 65 = _ := hd 9 (by decide)
                  rw [h58, h65]
                  clear h58 h65
                  clear hd
                  go_wp2
                  exact ⟨Fr.refl _ _, rfl⟩
                · intro σ w' hR hd
                  simp only [fill, Nat.reduceAdd, if_true, Bool.false_eq_true, if_false]
                  obtain h58 : σ 58 = _ := hd 2 (by decide)
                  obtain h66 : σ 66 = _ := hd 10 (by decide)
                  rw [h58, h66]
                  clear h58 h66
                  clear hd
                  have d8 : w'.cell? ⟨bx, 8, none⟩ = some (.int .u64 x.now) := (HBX.out.fr hR (by simp)).cell (i := 8) rfl
                  go_wp2
                  exact ⟨Fr.refl _ _, rfl⟩
                · intro σ w' hR hd
                  simp only [fill, Nat.reduceAdd, if_true, Bool.false_eq_true, if_false]
                  obtain h58 : σ 58 = _ := hd 2 (by decide)
                  obtain h61 : σ 61 = _ := hd 5 (by decide)
                  obtain h64 : σ 64 = _ := hd 8 (by decide)
                  obtain h67 : σ 67 = _ := hd 11 (by decide)
                  rw [h58, h61, h64, h67]
                  clear h58 h61 h64 h67
                  clear hd
                  go_wp2_with fail
                  refine (why_calls (HPT.out.fr0 hR) x.de x.now).mono ?_
                  rintro r w4 ⟨rfl, hf0⟩
                  have hf4 := Hd.mk hf0
                  clear hf0
                  rw [HWY.out]
                  go_wp2
                  exact ⟨hf4.out, rfl⟩
                · intro σ w' hR hd
                  simp only [fill, Nat.reduceAdd, if_true, Bool.false_eq_true, if_false]
                  obtain h58 : σ 58 = _ := hd 2 (by decide)
                  obtain h60 : σ 60 = _ := hd 4 (by decide)
                  obtain h68 : σ 68 = _ := hd 12 (by decide)
                  rw [h58, h60, h68]
                  clear h58 h60 h68
                  clear hd
                  go_wp2
                  exact ⟨Fr.refl _ _, by show Value.bool (x.err != wy) = _; rw [HER.out]⟩
                · intro σ w' hR hd
                  simp only [fill, Nat.reduceAdd, if_true, Bool.false_eq_true, if_false]
                  obtain h58 : σ 58 = _ := hd 2 (by decide)
                  obtain h69 : σ 69 = _ := hd 13 (by decide)
                  rw [h58, h69]
                  clear h58 h69
                  clear hd
                  go_wp2
                  exact ⟨Fr.refl _ _, rfl⟩
                · intro σ w' hR hd
                  simp only [fill, Nat.reduceAdd, if_true, Bool.false_eq_true, if_false]
                  obtain h70 : σ 70 = _ := hd 14 (by decide)
                  rw [h70]
                  clear h70
                  clear hd
                  go_wp2
                  exact ⟨Fr.refl _ _, rfl⟩
                · intro σ w' hR hd
                  simp only [fill, Nat.reduceAdd, if_true, Bool.false_eq_true, if_false]
                  obtain h70 : σ 70 = _ := hd 14 (by decide)
                  obtain h71 : σ 71 = _ := hd 15 (by decide)
                  rw [h70, h71]
                  clear h70 h71
                  clear hd
                  have d19 : w'.cell? ⟨bx, 19, none⟩ = some (.slice ga x.G.length x.gc) := (HBX.out.fr hR (by simp)).cell (i := 19) HC19.out
                  go_wp2
                  exact ⟨Fr.refl _ _, rfl⟩
                · intro σ w' hR hd
                  simp only [fill, Nat.reduceAdd, if_true, Bool.false_eq_true, if_false]
                  obtain h70 : σ 70 = _ := hd 14 (by decide)
                  obtain h72 : σ 72 = _ := hd 16 (by decide)
                  rw [h70, h72]
                  clear h70 h72
                  clear hd
                  go_wp2
                  exact ⟨Fr.refl _ _, rfl⟩
                · intro σ w' hR hd
                  simp only [fill, Nat.reduceAdd, if_true, Bool.false_eq_true, if_false]
                  obtain h70 : σ 70 = _ := hd 14 (by decide)
                  obtain h73 : σ 73 = _ := hd 17 (by decide)
                  rw [h70, h73]
                  clear h70 h73
                  clear hd
                  go_wp2
                  exact ⟨Fr.refl _ _, by refine congrArg Value.bool (?_ : _ = false); rw [HLN.out]⟩
                · intro σ w' hR hd
                  simp only [fill, Nat.reduceAdd, if_true, Bool.false_eq_true, if_false]
                  obtain h58 : σ 58 = _ := hd 2 (by decide)
                  obtain h70 : σ 70 = _ := hd 14 (by decide)
                  obtain h74 : σ 74 = _ := hd 18 (by decide)
                  rw [h58, h70, h74]
                  clear h58 h70 h74
                  clear hd
                  go_wp2
                  exact ⟨Fr.refl _ _, rfl⟩
                · intro σ w' hR hd
                  simp only [fill, Nat.reduceAdd, if_true, Bool.false_eq_true, if_false]
                  obtain h58 : σ 58 = _ := hd 2 (by decide)
                  obtain h75 : σ 75 = _ := hd 19 (by decide)
                  rw [h58, h75]
                  clear h58 h75
                  clear hd
                  go_wp2
                  exact ⟨Fr.refl _ _, rfl⟩
                · intro σ w' hR hd
                  simp only [fill, Nat.reduceAdd, if_true, Bool.false_eq_true, if_false]
                  obtain h76 : σ 76 = _ := hd 20 (by decide)
                  rw [h76]
                  clear h76
                  clear hd
                  go_wp2
                  exact ⟨Fr.refl _ _, rfl⟩
              · intro σ w3 hR hG hH
                obtain h55 : σ 55 = _ := hG 21 (by decide)
                simp only [fill, Nat.reduceAdd, if_true, Bool.false_eq_true, if_false, h55]
                clear h55
                clear hG
                have HF6 := Hd.mk ((Fr.refl [] wc').drew.trans hR)
                clear hR
                go_wp2_with fail
                go_meet
                case rel => exact ⟨HF6.out, HYES.out⟩
            · have HLN : Hd (decide (0 < x.G.length) = true) := Hd.mk (decide_eq_true (by omega))
              have HGO := Hd.mk (ins_no (ρ := rho w0) (s := s) (m := P.room) (x := x) (by unfold insOkB; rw [HBA.out, HRB.out, HWY.out, decide_eq_false hl]; simp))
              clear hwy he hl
              go_wp2_with fail
              have HBX := Hd.mk HBX3.out.drew
              have HPT : Hd (PtAt wc'.drew P s) := Hd.mk (HPT3.out.fr0 (Fr.refl [] wc').drew)
              refine wp_region_gs { R := Fr [], R1 := Fr [], gs := [Is (.bool false), Is (.bool true), Is (.bool true), Is (.pointer (some ⟨bx, 18, none⟩)), Is (.int .i64 x.err), Is (.pointer (some ⟨P.pp, 0, none⟩)), Is (.pointer (some ⟨bx, 0, none⟩)), Is (.pointer (some ⟨bx, 1, none⟩)), Is (.agg #[.string x.de.q.name, .int .u16 x.de.q.ty, .int .u16 x.de.q.cl, .slice x.de.ra x.de.rn x.de.rc, .int .i64 x.de.rcode, .int .i64 x.de.rank, .int .u64 x.de.expire]), Is (.pointer (some ⟨bx, 0, none⟩)), Is (.pointer (some ⟨bx, 8, none⟩)), Is (.int .u64 x.now), Is (.int .i64 wy), Is (.bool false), Is (.bool false), Is (.pointer (some ⟨bx, 19, none⟩)), Is (.slice ga x.G.length x.gc), Is (.int .i64 x.G.length), Is (.bool true), Is (.bool true), Is (.bool true), Is (.bool true)], ds := [some 56, some 57, some 58, some 59, some 60, some 61, some 62, some 63, some 64, some 65, some 66, some 67, some 68, some 69, some 70, some 71, some 72, some 73, some 74, some 75, some 76, some 55], fl := [false, false, false, false, false, false, false, false, false, false, false, false, false, false, false, false, false, false, false, false, false, false], hs := [], hd := [] } [false, false, false, false, false, false, false, false, false, false, false, false, false, false, false, false, false, false, false, false, false, false, false, false, false, false, false, false, false, false, false, false, false, false, false, false, false, false, false, false, false, false, false, false, false, false, false, false, false, false, false, false, false, false, false, true, true, true, true, true, true, true, true, true, true, true, true, true, true, true, true, true, true, true, true, true, true, false, false, false, false, false, false, false, false, false, false, false, false, false, false, false, false, false, false, false, false, false, false, false, false, false, false, false, false] (by kernel_rfl) _ (by kernel_rfl) (by kernel_rfl) (by kernel_rfl) (by kernel_rfl) rfl [] (fun _ _ _ h1 h2 => h1.trans h2) (fun _ _ h => h) (staI (staI (staI (staI (staI (staI (staI (staI (staI (staI (staI (staI (staI (staI (staI (staI (staI (staI (staI (staI (staI (staI sta0)))))))))))))))))))))) sth0 (fun _ _ h => h.size) _ (Fr.refl _ _) trivial ?_ ?_
              · refine ⟨?_, ?_, ?_, ?_, ?_, ?_, ?_, ?_, ?_, ?_, ?_, ?_, ?_, ?_, ?_, ?_, ?_, ?_, ?_, ?_, ?_, ?_, trivial⟩
                · intro σ w' hR hd
                  simp only [fill, Nat.reduceAdd, if_true, Bool.false_eq_true, if_false]
                  clear hd
                  go_wp2
                  exact ⟨Fr.refl _ _, rfl⟩
                · intro σ w' hR hd
                  simp only [fill, Nat.reduceAdd, if_true, Bool.false_eq_true, if_false]
                  obtain h56 : σ 56 = _ := hd 0 (by decide)
                  rw [h56]
                  clear h56
                  clear hd
                  go_wp2
                  exact ⟨Fr.refl _ _, rfl⟩
                · intro σ w' hR hd
                  simp only [fill, Nat.reduceAdd, if_true, Bool.false_eq_true, if_false]
                  obtain h57 : σ 57 = _ := hd 1 (by decide)
                  rw [h57]
                  clear h57
                  clear hd
                  go_wp2
                  exact ⟨Fr.refl _ _, rfl⟩
                · intro σ w' hR hd
                  simp only [fill, Nat.reduceAdd, if_true, Bool.false_eq_true, if_false]
                  obtain h58 : σ 58 = _ := hd 2 (by decide)
                  rw [h58]
                  clear h58
                  clear hd
                  go_wp2
                  exact ⟨Fr.refl _ _, rfl⟩
                · intro σ w' hR hd
                  simp only [fill, Nat.reduceAdd, if_true, Bool.false_eq_true, if_false]
                  obtain h58 : σ 58 = _ := hd 2 (by decide)
                  obtain h59 : σ 59 = _ := hd 3 (by decide)
                  rw [h58, h59]
                  clear h58 h59
                  clear hd
                  have d18 : w'.cell? ⟨bx, 18, none⟩ = some (.int .i64 x.err) := (HBX.out.fr hR (by simp)).cell (i := 18) rfl
                  go_wp2
                  exact ⟨Fr.refl _ _, rfl⟩
                · intro σ w' hR hd
                  simp only [fill, Nat.reduceAdd, if_true, Bool.false_eq_true, if_false]
                  obtain h58 : σ 58 = _ := hd 2 (by decide)
                  rw [h58]
                  clear h58
                  clear hd
                  go_wp2
                  exact ⟨Fr.refl _ _, rfl⟩
                · intro σ w' hR hd
                  simp only [fill, Nat.reduceAdd, if_true, Bool.false_eq_true, if_false]
                  obtain h58 : σ 58 = _ := hd 2 (by decide)
                  rw [h58]
                  clear h58
                  clear hd
                  go_wp2
                  exact ⟨Fr.refl _ _, rfl⟩
                · intro σ w' hR hd
                  simp only [fill, Nat.reduceAdd, if_true, Bool.false_eq_true, if_false]
                  obtain h58 : σ 58 = _ := hd 2 (by decide)
                  obtain h62 : σ 62 = _ := hd 6 (by decide)
                  rw [h58, h62]
                  clear h58 h62
                  clear hd
                  go_wp2
                  exact ⟨Fr.refl _ _, rfl⟩
                · intro σ w' hR hd
                  simp only [fill, Nat.reduceAdd, if_true, Bool.false_eq_true, if_false]
                  obtain h58 : σ 58 = _ := hd 2 (by decide)
                  obtain h63 : σ 63 = _ := hd 7 (by decide)
                  rw [h58, h63]
                  clear h58 h63
                  clear hd
                  have d1 : w'.cell? ⟨bx, 1, none⟩ = some (.string x.de.q.name) := (HBX.out.fr hR (by simp)).cell (i := 1) rfl
                  have d2 : w'.cell? ⟨bx, 2, none⟩ = some (.int .u16 x.de.q.ty) := (HBX.out.fr hR (by simp)).cell (i := 2) rfl
                  have d3 : w'.cell? ⟨bx, 3, none⟩ = some (.int .u16 x.de.q.cl) := (HBX.out.fr hR (by simp)).cell (i := 3) rfl
                  have d4 : w'.cell? ⟨bx, 4, none⟩ = some (.slice x.de.ra x.de.rn x.de.rc) := (HBX.out.fr hR (by simp)).cell (i := 4) rfl
                  have d5 : w'.cell? ⟨bx, 5, none⟩ = some (.int .i64 x.de.rcode) := (HBX.out.fr hR (by simp)).cell (i := 5) rfl
                  have d6 : w'.cell? ⟨bx, 6, none⟩ = some (.int .i64 x.de.rank) := (HBX.out.fr hR (by simp)).cell (i := 6) rfl
                  have d7 : w'.cell? ⟨bx, 7, none⟩ = some (.int .u64 x.de.expire) := (HBX.out.fr hR (by simp)).cell (i := 7) rfl
                  go_wp2
                  exact ⟨Fr.refl _ _, rfl⟩
                · intro σ w' hR hd
                  simp only [fill, Nat.reduceAdd, if_true, Bool.false_eq_true, if_false]
                  obtain h58 : σ 58 = _ := hd 2 (by decide)
                  rw [h58]
                  clear h58
                  clear hd
                  go_wp2
                  exact ⟨Fr.refl _ _, rfl⟩
                · intro σ w' hR hd
                  simp only [fill, Nat.reduceAdd, if_true, Bool.false_eq_true, if_false]
                  obtain h58 : σ 58 = _ := hd 2 (by decide)
                  obtain h65 : σ 65 = _ := hd 9 (by decide)
                  rw [h58, h65]
                  clear h58 h65
                  clear hd
                  go_wp2
                  exact ⟨Fr.refl _ _, rfl⟩
                · intro σ w' hR hd
                  simp only [fill, Nat.reduceAdd, if_true, Bool.false_eq_true, if_false]
                  obtain h58 : σ 58 = _ := hd 2 (by decide)
                  obtain h66 : σ 66 = _ := hd 10 (by decide)
                  rw [h58, h66]
                  clear h58 h66
                  clear hd
                  have d8 : w'.cell? ⟨bx, 8, none⟩ = some (.int .u64 x.now) := (HBX.out.fr hR (by simp)).cell (i := 8) rfl
                  go_wp2
                  exact ⟨Fr.refl _ _, rfl⟩
                · intro σ w' hR hd
                  simp only [fill, Nat.reduceAdd, if_true, Bool.false_eq_true, if_false]
                  obtain h58 : σ 58 = _ := hd 2 (by decide)
                  obtain h61 : σ 61 = _ := hd 5 (by decide)
                  obtain h64 : σ 64 = _ := hd 8 (by decide)
                  obtain h67 : σ 67 = _ := hd 11 (by decide)
                  rw [h58, h61, h64, h67]
                  clear h58 h61 h64 h67
                  clear hd
                  go_wp2_with fail
                  refine (why_calls (HPT.out.fr0 hR) x.de x.now).mono ?_
                  rintro r w4 ⟨rfl, hf0⟩
                  have hf4 := Hd.mk hf0
                  clear hf0
                  rw [HWY.out]
                  go_wp2
                  exact ⟨hf4.out, rfl⟩
                · intro σ w' hR hd
                  simp only [fill, Nat.reduceAdd, if_true, Bool.false_eq_true, if_false]
                  obtain h58 : σ 58 = _ := hd 2 (by decide)
                  obtain h60 : σ 60 = _ := hd 4 (by decide)
                  obtain h68 : σ 68 = _ := hd 12 (by decide)
                  rw [h58, h60, h68]
                  clear h58 h60 h68
                  clear hd
                  go_wp2
                  exact ⟨Fr.refl _ _, by show Value.bool (x.err != wy) = _; rw [HER.out]⟩
                · intro σ w' hR hd
                  simp only [fill, Nat.reduceAdd, if_true, Bool.false_eq_true, if_false]
                  obtain h58 : σ 58 = _ := hd 2 (by decide)
                  obtain h69 : σ 69 = _ := hd 13 (by decide)
                  rw [h58, h69]
                  clear h58 h69
                  clear hd
                  go_wp2
                  exact ⟨Fr.refl _ _, rfl⟩
                · intro σ w' hR hd
                  simp only [fill, Nat.reduceAdd, if_true, Bool.false_eq_true, if_false]
                  obtain h70 : σ 70 = _ := hd 14 (by decide)
                  rw [h70]
                  clear h70
                  clear hd
                  go_wp2
                  exact ⟨Fr.refl _ _, rfl⟩
                · intro σ w' hR hd
                  simp only [fill, Nat.reduceAdd, if_true, Bool.false_eq_true, if_false]
                  obtain h70 : σ 70 = _ := hd 14 (by decide)
                  obtain h71 : σ 71 = _ := hd 15 (by decide)
                  rw [h70, h71]
                  clear h70 h71
                  clear hd
                  have d19 : w'.cell? ⟨bx, 19, none⟩ = some (.slice ga x.G.length x.gc) := (HBX.out.fr hR (by simp)).cell (i := 19) HC19.out
                  go_wp2
                  exact ⟨Fr.refl _ _, rfl⟩
                · intro σ w' hR hd
                  simp only [fill, Nat.reduceAdd, if_true, Bool.false_eq_true, if_false]
                  obtain h70 : σ 70 = _ := hd 14 (by decide)
                  obtain h72 : σ 72 = _ := hd 16 (by decide)
                  rw [h70, h72]
                  clear h70 h72
                  clear hd
                  go_wp2
                  exact ⟨Fr.refl _ _, rfl⟩
                · intro σ w' hR hd
                  simp only [fill, Nat.reduceAdd, if_true, Bool.false_eq_true, if_false]
                  obtain h70 : σ 70 = _ := hd 14 (by decide)
                  obtain h73 : σ 73 = _ := hd 17 (by decide)
                  rw [h70, h73]
                  clear h70 h73
                  clear hd
                  go_wp2
                  exact ⟨Fr.refl _ _, by refine congrArg Value.bool (?_ : _ = true); rw [HLN.out]⟩
                · intro σ w' hR hd
                  simp only [fill, Nat.reduceAdd, if_true, Bool.false_eq_true, if_false]
                  obtain h58 : σ 58 = _ := hd 2 (by decide)
                  obtain h70 : σ 70 = _ := hd 14 (by decide)
                  obtain h74 : σ 74 = _ := hd 18 (by decide)
                  rw [h58, h70, h74]
                  clear h58 h70 h74
                  clear hd
                  go_wp2
                  exact ⟨Fr.refl _ _, rfl⟩
                · intro σ w' hR hd
                  simp only [fill, Nat.reduceAdd, if_true, Bool.false_eq_true, if_false]
                  obtain h58 : σ 58 = _ := hd 2 (by decide)
                  obtain h75 : σ 75 = _ := hd 19 (by decide)
                  rw [h58, h75]
                  clear h58 h75
                  clear hd
                  go_wp2
                  exact ⟨Fr.refl _ _, rfl⟩
                · intro σ w' hR hd
                  simp only [fill, Nat.reduceAdd, if_true, Bool.false_eq_true, if_false]
                  obtain h76 : σ 76 = _ := hd 20 (by decide)
                  rw [h76]
                  clear h76
                  clear hd
                  go_wp2
                  exact ⟨Fr.refl _ _, rfl⟩
              · intro σ w3 hR hG hH
                obtain h55 : σ 55 = _ := hG 21 (by decide)
                simp only [fill, Nat.reduceAdd, if_true, Bool.false_eq_true, if_false, h55]
                clear h55
                clear hG
                have HF6 := Hd.mk (HF3.out.trans ((Fr.refl [] wc').drew.trans hR))
                have HP6 := Hd.mk (HPT.out.fr0 hR)
                clear hR
                go_wp2
                go_ret
                exact ⟨by rw [HGO.out.1]; rfl, by rw [HGO.out.2]; exact HP6.out, HF6.out.mono (by simp)⟩
          · have HER : Hd ((x.err != wy) = true) := Hd.mk (by simpa using he)
            have HGO := Hd.mk (ins_no (ρ := rho w0) (s := s) (m := P.room) (x := x) (by unfold insOkB; rw [HBA.out, HRB.out, HWY.out, decide_eq_false he]; simp))
            clear hwy he
            go_wp2_with fail
            have HBX := Hd.mk HBX3.out.drew
            have HPT : Hd (PtAt wc'.drew P s) := Hd.mk (HPT3.out.fr0 (Fr.refl [] wc').drew)
            refine wp_region_gs { R := Fr [], R1 := Fr [], gs := [Is (.bool false), Is (.bool true), Is (.bool true), Is (.pointer (some ⟨bx, 18, none⟩)), Is (.int .i64 x.err), Is (.pointer (some ⟨P.pp, 0, none⟩)), Is (.pointer (some ⟨bx, 0, none⟩)), Is (.pointer (some ⟨bx, 1, none⟩)), Is (.agg #[.string x.de.q.name, .int .u16 x.de.q.ty, .int .u16 x.de.q.cl, .slice x.de.ra x.de.rn x.de.rc, .int .i64 x.de.rcode, .int .i64 x.de.rank, .int .u64 x.de.expire]), Is (.pointer (some ⟨bx, 0, none⟩)), Is (.pointer (some ⟨bx, 8, none⟩)), Is (.int .u64 x.now), Is (.int .i64 wy), Is (.bool true), Is (.bool true), No, No, No, No, Is (.bool true), Is (.bool true), Is (.bool true)], ds := [some 56, some 57, some 58, some 59, some 60, some 61, some 62, some 63, some 64, some 65, some 66, some 67, some 68, some 69, some 70, some 71, some 72, some 73, some 74, some 75, some 76, some 55], fl := [false, false, false, false, false, false, false, false, false, false, false, false, false, false, false, false, false, false, false, false, false, false], hs := [], hd := [] } [false, false, false, false, false, false, false, false, false, false, false, false, false, false, false, false, false, false, false, false, false, false, false, false, false, false, false, false, false, false, false, false, false, false, false, false, false, false, false, false, false, false, false, false, false, false, false, false, false, false, false, false, false, false, false, true, true, true, true, true, true, true, true, true, true, true, true, true, true, true, true, true, true, true, true, true, true, false, false, false, false, false, false, false, false, false, false, false, false, false, false, false, false, false, false, false, false, false, false, false, false, false, false, false, false] (by kernel_rfl) _ (by kernel_rfl) (by kernel_rfl) (by kernel_rfl) (by kernel_rfl) rfl [] (fun _ _ _ h1 h2 => h1.trans h2) (fun _ _ h => h) (staI (staI (staI (staI (staI (staI (staI (staI (staI (staI (staI (staI (staI (staI (staI (staN (staN (staN (staN (staI (staI (staI sta0)))))))))))))))))))))) sth0 (fun _ _ h => h.size) _ (Fr.refl _ _) trivial ?_ ?_
            · refine ⟨?_, ?_, ?_, ?_, ?_, ?_, ?_, ?_, ?_, ?_, ?_, ?_, ?_, ?_, ?_, ?_, ?_, ?_, ?_, ?_, ?_, ?_, trivial⟩
              · intro σ w' hR hd
                simp only [fill, Nat.reduceAdd, if_true, Bool.false_eq_true, if_false]
                clear hd
                go_wp2
                exact ⟨Fr.refl _ _, rfl⟩
              · intro σ w' hR hd
                simp only [fill, Nat.reduceAdd, if_true, Bool.false_eq_true, if_false]
                obtain h56 : σ 56 = _ := hd 0 (by decide)
                rw [h56]
                clear h56
                clear hd
                go_wp2
                exact ⟨Fr.refl _ _, rfl⟩
              · intro σ w' hR hd
                simp only [fill, Nat.reduceAdd, if_true, Bool.false_eq_true, if_false]
                obtain h57 : σ 57 = _ := hd 1 (by decide)
                rw [h57]
                clear h57
                clear hd
                go_wp2
                exact ⟨Fr.refl _ _, rfl⟩
              · intro σ w' hR hd
                simp only [fill, Nat.reduceAdd, if_true, Bool.false_eq_true, if_false]
                obtain h58 : σ 58 = _ := hd 2 (by decide)
                rw [h58]
                clear h58
                clear hd
                go_wp2
                exact ⟨Fr.refl _ _, rfl⟩
              · intro σ w' hR hd
                simp only [fill, Nat.reduceAdd, if_true, Bool.false_eq_true, if_false]
                obtain h58 : σ 58 = _ := hd 2 (by decide)
                obtain h59 : σ 59 = _ := hd 3 (by decide)
                rw [h58, h59]
                clear h58 h59
                clear hd
                have d18 : w'.cell? ⟨bx, 18, none⟩ = some (.int .i64 x.err) := (HBX.out.fr hR (by simp)).cell (i := 18) rfl
                go_wp2
                exact ⟨Fr.refl _ _, rfl⟩
              · intro σ w' hR hd
                simp only [fill, Nat.reduceAdd, if_true, Bool.false_eq_true, if_false]
                obtain h58 : σ 58 = _ := hd 2 (by decide)
                rw [h58]
                clear h58
                clear hd
                go_wp2
                exact ⟨Fr.refl _ _, rfl⟩
              · intro σ w' hR hd
                simp only [fill, Nat.reduceAdd, if_true, Bool.false_eq_true, if_false]
                obtain h58 : σ 58 = _ := hd 2 (by decide)
                rw [h58]
                clear h58
                clear hd
                go_wp2
                exact ⟨Fr.refl _ _, rfl⟩
              · intro σ w' hR hd
                simp only [fill, Nat.reduceAdd, if_true, Bool.false_eq_true, if_false]
                obtain h58 : σ 58 = _ := hd 2 (by decide)
                obtain h62 : σ 62 = _ := hd 6 (by decide)
                rw [h58, h62]
                clear h58 h62
                clear hd
                go_wp2
                exact ⟨Fr.refl _ _, rfl⟩
              · intro σ w' hR hd
                simp only [fill, Nat.reduceAdd, if_true, Bool.false_eq_true, if_false]
                obtain h58 : σ 58 = _ := hd 2 (by decide)
                obtain h63 : σ 63 = _ := hd 7 (by decide)
                rw [h58, h63]
                clear h58 h63
                clear hd
                have d1 : w'.cell? ⟨bx, 1, none⟩ = some (.string x.de.q.name) := (HBX.out.fr hR (by simp)).cell (i := 1) rfl
                have d2 : w'.cell? ⟨bx, 2, none⟩ = some (.int .u16 x.de.q.ty) := (HBX.out.fr hR (by simp)).cell (i := 2) rfl
                have d3 : w'.cell? ⟨bx, 3, none⟩ = some (.int .u16 x.de.q.cl) := (HBX.out.fr hR (by simp)).cell (i := 3) rfl
                have d4 : w'.cell? ⟨bx, 4, none⟩ = some (.slice x.de.ra x.de.rn x.de.rc) := (HBX.out.fr hR (by simp)).cell (i := 4) rfl
                have d5 : w'.cell? ⟨bx, 5, none⟩ = some (.int .i64 x.de.rcode) := (HBX.out.fr hR (by simp)).cell (i := 5) rfl
                have d6 : w'.cell? ⟨bx, 6, none⟩ = some (.int .i64 x.de.rank) := (HBX.out.fr hR (by simp)).cell (i := 6) rfl
                have d7 : w'.cell? ⟨bx, 7, none⟩ = some (.int .u64 x.de.expire) := (HBX.out.fr hR (by simp)).cell (i := 7) rfl
                go_wp2
                exact ⟨Fr.refl _ _, rfl⟩
              · intro σ w' hR hd
                simp only [fill, Nat.reduceAdd, if_true, Bool.false_eq_true, if_false]
                obtain h58 : σ 58 = _ := hd 2 (by decide)
                rw [h58]
                clear h58
                clear hd
                go_wp2
                exact ⟨Fr.refl _ _, rfl⟩
              · intro σ w' hR hd
                simp only [fill, Nat.reduceAdd, if_true, Bool.false_eq_true, if_false]
                obtain h58 : σ 58 = _ := hd 2 (by decide)
                obtain h65 : σ 65 = _ := hd 9 (by decide)
                rw [h58, h65]
                clear h58 h65
                clear hd
                go_wp2
                exact ⟨Fr.refl _ _, rfl⟩
              · intro σ w' hR hd
                simp only [fill, Nat.reduceAdd, if_true, Bool.false_eq_true, if_false]
                obtain h58 : σ 58 = _ := hd 2 (by decide)
                obtain h66 : σ 66 = _ := hd 10 (by decide)
                rw [h58, h66]
                clear h58 h66
                clear hd
                have d8 : w'.cell? ⟨bx, 8, none⟩ = some (.int .u64 x.now) := (HBX.out.fr hR (by simp)).cell (i := 8) rfl
                go_wp2
                exact ⟨Fr.refl _ _, rfl⟩
              · intro σ w' hR hd
                simp only [fill, Nat.reduceAdd, if_true, Bool.false_eq_true, if_false]
                obtain h58 : σ 58 = _ := hd 2 (by decide)
                obtain h61 : σ 61 = _ := hd 5 (by decide)
                obtain h64 : σ 64 = _ := hd 8 (by decide)
                obtain h67 : σ 67 = _ := hd 11 (by decide)
                rw [h58, h61, h64, h67]
                clear h58 h61 h64 h67
                clear hd
                go_wp2_with fail
                refine (why_calls (HPT.out.fr0 hR) x.de x.now).mono ?_
                rintro r w4 ⟨rfl, hf0⟩
                have hf4 := Hd.mk hf0
                clear hf0
                rw [HWY.out]
                go_wp2
                exact ⟨hf4.out, rfl⟩
              · intro σ w' hR hd
                simp only [fill, Nat.reduceAdd, if_true, Bool.false_eq_true, if_false]
                obtain h58 : σ 58 = _ := hd 2 (by decide)
                obtain h60 : σ 60 = _ := hd 4 (by decide)
                obtain h68 : σ 68 = _ := hd 12 (by decide)
                rw [h58, h60, h68]
                clear h58 h60 h68
                clear hd
                go_wp2
                exact ⟨Fr.refl _ _, by show Value.bool (x.err != wy) = _; rw [HER.out]⟩
              · intro σ w' hR hd
                simp only [fill, Nat.reduceAdd, if_true, Bool.false_eq_true, if_false]
                obtain h58 : σ 58 = _ := hd 2 (by decide)
                obtain h69 : σ 69 = _ := hd 13 (by decide)
                rw [h58, h69]
                clear h58 h69
                clear hd
                go_wp2
                exact ⟨Fr.refl _ _, rfl⟩
              · intro σ w' hR hd
                simp only [fill, Nat.reduceAdd, if_true, Bool.false_eq_true, if_false]
                obtain h70 : σ 70 = _ := hd 14 (by decide)
                rw [h70]
                clear h70
                clear hd
                go_wp2
                exact ⟨Fr.refl _ _, trivial⟩
              · intro σ w' hR hd
                simp only [fill, Nat.reduceAdd, if_true, Bool.false_eq_true, if_false]
                obtain h70 : σ 70 = _ := hd 14 (by decide)
                rw [h70]
                clear h70
                clear hd
                go_wp2
                exact ⟨Fr.refl _ _, trivial⟩
              · intro σ w' hR hd
                simp only [fill, Nat.reduceAdd, if_true, Bool.false_eq_true, if_false]
                obtain h70 : σ 70 = _ := hd 14 (by decide)
                rw [h70]
                clear h70
                clear hd
                go_wp2
                exact ⟨Fr.refl _ _, trivial⟩
              · intro σ w' hR hd
                simp only [fill, Nat.reduceAdd, if_true, Bool.false_eq_true, if_false]
                obtain h70 : σ 70 = _ := hd 14 (by decide)
                rw [h70]
                clear h70
                clear hd
                go_wp2
                exact ⟨Fr.refl _ _, trivial⟩
              · intro σ w' hR hd
                simp only [fill, Nat.reduceAdd, if_true, Bool.false_eq_true, if_false]
                obtain h58 : σ 58 = _ := hd 2 (by decide)
                obtain h70 : σ 70 = _ := hd 14 (by decide)
                rw [h58, h70]
                clear h58 h70
                clear hd
                go_wp2
                exact ⟨Fr.refl _ _, rfl⟩
              · intro σ w' hR hd
                simp only [fill, Nat.reduceAdd, if_true, Bool.false_eq_true, if_false]
                obtain h58 : σ 58 = _ := hd 2 (by decide)
                obtain h75 : σ 75 = _ := hd 19 (by decide)
                rw [h58, h75]
                clear h58 h75
                clear hd
                go_wp2
                exact ⟨Fr.refl _ _, rfl⟩
              · intro σ w' hR hd
                simp only [fill, Nat.reduceAdd, if_true, Bool.false_eq_true, if_false]
                obtain h76 : σ 76 = _ := hd 20 (by decide)
                rw [h76]
                clear h76
                clear hd
                go_wp2
                exact ⟨Fr.refl _ _, rfl⟩
            · intro σ w3 hR hG hH
              obtain h55 : σ 55 = _ := hG 21 (by decide)
              simp only [fill, Nat.reduceAdd, if_true, Bool.false_eq_true, if_false, h55]
              clear h55
              clear hG
              have HF6 := Hd.mk (HF3.out.trans ((Fr.refl [] wc').drew.trans hR))
              have HP6 := Hd.mk (HPT.out.fr0 hR)
              clear hR
              go_wp2
              go_ret
              exact ⟨by rw [HGO.out.1]; rfl, by rw [HGO.out.2]; exact HP6.out, HF6.out.mono (by simp)⟩
      case rest =>
        obtain ⟨hfc, hyes⟩ := hcut
        have HGO := Hd.mk (ins_yes hyes)
        have HF5 := Hd.mk (HF3.out.trans hfc)
        have HP5 := Hd.mk (HPT3.out.fr0 hfc)
        have HB5 := Hd.mk (HBX3.out.fr hfc (by simp))
        clear hfc hyes HF3 HPT3 HBX3
        obtain ⟨w5, hw5⟩ : ∃ y, wc = y := ⟨_, rfl⟩
        rw [hw5] at HF5 HP5 HB5 ⊢
        clear hw5
        have HSTART : Hd (PtAt w5 P (dropAll s (x.G.take 0)) ∧ Blk w5 bx 38 (evC x) ∧ Fr P.wr w w5) := Hd.mk ⟨by simpa [dropAll] using HP5.out, HB5.out, HF5.out.mono (by simp)⟩
        have c19 : w5.cell? ⟨bx, 19, none⟩ = some (.slice ga x.G.length x.gc) := HB5.out.cell (i := 19) HC19.out
        go_wp2_with fail
        clear c19
        go_loopg [80] x.G.length (fun g v wr => ∃ k : Nat, k ≤ x.G.length ∧ x.G.length - k ≤ g ∧ v = .int .i64 (k : Nat) ∧ Hd (PtAt wr P (dropAll s (x.G.take k)) ∧ Blk wr bx 38 (evC x) ∧ Fr P.wr w wr))
        case atStart => exact ⟨0, Nat.zero_le _, by omega, rfl, HSTART⟩
        case round =>
          obtain ⟨k, hk, hg, rfl, HREL⟩ := hrel
          have HFW : Hd (Fr [] w0 wr) := Hd.mk (H0.out.weak HREL.out.2.2 (fun x hx => .inr (HPW.out x hx)))
          by_cases hlt : k < x.G.length
          · have hgr := HG.out.fr HFW.out
            obtain ⟨b, off, rfl, hb, hc⟩ := hgr.row (by omega)
            have e0 : wr.cell? ⟨b, off + k * 3, none⟩ = some (.string (x.G[k]).name) := hc k hlt 0 _ rfl
            have e1 : wr.cell? ⟨b, off + k * 3 + 1, none⟩ = some (.int .u16 (x.G[k]).ty) := hc k hlt 1 _ rfl
            have e2 : wr.cell? ⟨b, off + k * 3 + 2, none⟩ = some (.int .u16 (x.G[k]).cl) := hc k hlt 2 _ rfl
            clear hc hb hgr
            obtain ⟨q, hq⟩ : ∃ q, x.G[k] = q := ⟨_, rfl⟩
            rw [hq] at e0 e1 e2
            have HQ := Hd.mk hq
            clear hq
            have hltI : (k : Int) < (x.G.length : Int) := by omega
            go_upto_region 11 with (fail)
            clear e0 e1 e2
            refine wp_name ?_; intro w2 hw2
            have hf2 := alloc_of hw2
            have hb2 := blk_of (T := 28) (c := [.string q.name, .int .u16 q.ty, .int .u16 q.cl]) hw2
            clear hw2
            obtain ⟨bq, hbq⟩ : ∃ p, wr.heap.size = p := ⟨_, rfl⟩
            rw [hbq] at hb2 ⊢
            have d0 : w2.cell? ⟨bq, 0, none⟩ = some (.string q.name) := hb2.cell (i := 0) rfl
            have d1 : w2.cell? ⟨bq, 1, none⟩ = some (.int .u16 q.ty) := hb2.cell (i := 1) rfl
            have d2 : w2.cell? ⟨bq, 2, none⟩ = some (.int .u16 q.cl) := hb2.cell (i := 2) rfl
            have HP2 := Hd.mk (HREL.out.1.fr0 hf2)
            have HK2 := Hd.mk (HREL.out.2.1.fr hf2 (by simp))
            have HF2 := Hd.mk (HREL.out.2.2.trans (hf2.mono (T := P.wr) (by simp)))
            clear hf2 hb2 hbq
            go_wp2_with fail
            refine (pdrop_calls HP2.out q).mono ?_
            rintro r w3 ⟨rfl, hp3, hf3⟩
            have HN3 : Hd (PtAt w3 P (dropAll s (x.G.take (k + 1))) ∧ Blk w3 bx 38 (evC x) ∧ Fr P.wr w w3) := Hd.mk ⟨by rw [List.take_succ_eq_append_getElem hlt, HQ.out, dropAll_app]; exact hp3, HK2.out.fr hf3 HNE.out, HF2.out.trans hf3⟩
            clear d0 d1 d2 hp3 hf3
            go_wp2
            go_roundg (x.G.length - (k + 1))
            case measure => omega
            case rel => exact ⟨k + 1, by omega, by omega, by go_num, HN3⟩
          · have : k = x.G.length := by omega
            subst this
            have HPE : Hd (PtAt wr P (dropAll s x.G)) := Hd.mk (by have hx := HREL.out.1; rw [List.take_length] at hx; exact hx)
            go_wp2_with fail
            obtain ⟨s2, hs2⟩ : ∃ y, dropAll s x.G = y := ⟨_, rfl⟩
            have HS2 := Hd.mk hs2
            have HSL : Hd (s2.L.length < maxLen) := Hd.mk (by rw [← hs2]; have := (dropAll_len s x.G).1; have := HL.out; exact Nat.lt_of_le_of_lt (by omega : (dropAll s x.G).L.length ≤ 1000000) (by decide))
            have HSE : Hd (s2.E.length < maxLen) := Hd.mk (by rw [← hs2]; have := (dropAll_len s x.G).2; have := HE.out; exact Nat.lt_of_le_of_lt (by omega : (dropAll s x.G).E.length ≤ 1000000) (by decide))
            obtain ⟨ic, hic⟩ : ∃ y, insC s2.L P.room x.de x.now = y := ⟨_, rfl⟩
            have HIC := Hd.mk hic
            obtain ⟨c0, hc0⟩ : ∃ b, (ic == 0) = b := ⟨_, rfl⟩
            have HC0 := Hd.mk hc0
            have HPT : Hd (PtAt wr.drew P s2) := Hd.mk (by rw [← hs2]; exact HPE.out.fr0 (Fr.refl [] wr).drew)
            have HNP : Hd (P.pp ∉ P.wr) := Hd.mk (by have := HPT.out.nes; simp only [Pt.wr, List.mem_cons, List.not_mem_nil, or_false]; rintro (e | e); exact this.1 e.symm; exact this.2.2.1 e.symm)
            have HPB : Hd (Blk wr.drew P.pp 57 [.pointer (some ⟨P.pm, 0, none⟩), .map (some P.be)]) := Hd.mk HPT.out.blk
            have HBX := Hd.mk HREL.out.2.1.drew
            have HFW := Hd.mk HREL.out.2.2
            clear hs2 hic hc0 HREL HPE
            refine wp_region_gs { R := Fr P.wr, R1 := Fr [], gs := [Is (.pointer (some ⟨P.pp, 0, none⟩)), Is (.pointer (some ⟨P.pp, 0, none⟩)), Is (.pointer (some ⟨P.pp, 0, none⟩)), Is (.pointer (some ⟨P.pm, 0, none⟩)), Is (.pointer (some ⟨bx, 0, none⟩)), Is (.pointer (some ⟨bx, 1, none⟩)), Is (.agg #[.string x.de.q.name, .int .u16 x.de.q.ty, .int .u16 x.de.q.cl, .slice x.de.ra x.de.rn x.de.rc, .int .i64 x.de.rcode, .int .i64 x.de.rank, .int .u64 x.de.expire]), Is (.pointer (some ⟨bx, 0, none⟩)), Is (.pointer (some ⟨bx, 8, none⟩)), Is (.int .u64 x.now), Is (.int .i64 ic), Is (.bool c0)], ds := [some 88, some 89, some 90, some 91, some 92, some 93, some 94, some 95, some 96, some 97, some 98, some 99], fl := [false, false, false, false, false, false, false, false, false, false, true, false], hs := [fun _ w2 => PtAt w2 P s2, fun _ w2 => PtAt w2 P ⟨insL s2.L P.room x.de x.now, s2.E⟩], hd := [[], []] } [false, false, false, false, false, false, false, false, false, false, false, false, false, false, false, false, false, false, false, false, false, false, false, false, false, false, false, false, false, false, false, false, false, false, false, false, false, false, false, false, false, false, false, false, false, false, false, false, false, false, false, false, false, false, false, false, false, false, false, false, false, false, false, false, false, false, false, false, false, false, false, false, false, false, false, false, false, false, false, false, false, false, false, false, false, false, false, false, true, true, true, true, true, true, true, true, true, true, true, true, false, false, false, false, false] (by kernel_rfl) _ (by kernel_rfl) (by kernel_rfl) (by kernel_rfl) (by kernel_rfl) rfl [] (fun _ _ _ h1 h2 => h1.trans h2) (fun _ _ h => h.mono (by simp)) (staI (staI (staI (staI (staI (staI (staI (staI (staI (staI (staI (staI sta0)))))))))))) (sth (fun _ _ _ hf h => h.fr0 hf) (sth (fun _ _ _ hf h => h.fr0 hf) sth0)) (fun _ _ h => h.size) _ (Fr.refl _ _) HPT.out ?_ ?_
            · refine ⟨?_, ?_, ?_, ?_, ?_, ?_, ?_, ?_, ?_, ?_, ?_, ?_, trivial⟩
              · intro σ w' hR hd
                simp only [fill, Nat.reduceAdd, if_true, Bool.false_eq_true, if_false]
                clear hd
                go_wp2
                exact ⟨Fr.refl _ _, rfl⟩
              · intro σ w' hR hd
                simp only [fill, Nat.reduceAdd, if_true, Bool.false_eq_true, if_false]
                obtain h88 : σ 88 = _ := hd 0 (by decide)
                rw [h88]
                clear h88
                clear hd
                go_wp2
                exact ⟨Fr.refl _ _, rfl⟩
              · intro σ w' hR hd
                simp only [fill, Nat.reduceAdd, if_true, Bool.false_eq_true, if_false]
                obtain h89 : σ 89 = _ := hd 1 (by decide)
                rw [h89]
                clear h89
                clear hd
                go_wp2
                exact ⟨Fr.refl _ _, rfl⟩
              · intro σ w' hR hd
                simp only [fill, Nat.reduceAdd, if_true, Bool.false_eq_true, if_false]
                obtain h90 : σ 90 = _ := hd 2 (by decide)
                rw [h90]
                clear h90
                clear hd
                have d0 : w'.cell? ⟨P.pp, 0, none⟩ = some (.pointer (some ⟨P.pm, 0, none⟩)) := (HPB.out.fr hR HNP.out).cell (i := 0) rfl
                go_wp2
                exact ⟨Fr.refl _ _, rfl⟩
              · intro σ w' hR hd
                simp only [fill, Nat.reduceAdd, if_true, Bool.false_eq_true, if_false]
                clear hd
                go_wp2
                exact ⟨Fr.refl _ _, rfl⟩
              · intro σ w' hR hd
                simp only [fill, Nat.reduceAdd, if_true, Bool.false_eq_true, if_false]
                obtain h92 : σ 92 = _ := hd 4 (by decide)
                rw [h92]
                clear h92
                clear hd
                go_wp2
                exact ⟨Fr.refl _ _, rfl⟩
              · intro σ w' hR hd
                simp only [fill, Nat.reduceAdd, if_true, Bool.false_eq_true, if_false]
                obtain h93 : σ 93 = _ := hd 5 (by decide)
                rw [h93]
                clear h93
                clear hd
                have d1 : w'.cell? ⟨bx, 1, none⟩ = some (.string x.de.q.name) := (HBX.out.fr hR HNE.out).cell (i := 1) rfl
                have d2 : w'.cell? ⟨bx, 2, none⟩ = some (.int .u16 x.de.q.ty) := (HBX.out.fr hR HNE.out).cell (i := 2) rfl
                have d3 : w'.cell? ⟨bx, 3, none⟩ = some (.int .u16 x.de.q.cl) := (HBX.out.fr hR HNE.out).cell (i := 3) rfl
                have d4 : w'.cell? ⟨bx, 4, none⟩ = some (.slice x.de.ra x.de.rn x.de.rc) := (HBX.out.fr hR HNE.out).cell (i := 4) rfl
                have d5 : w'.cell? ⟨bx, 5, none⟩ = some (.int .i64 x.de.rcode) := (HBX.out.fr hR HNE.out).cell (i := 5) rfl
                have d6 : w'.cell? ⟨bx, 6, none⟩ = some (.int .i64 x.de.rank) := (HBX.out.fr hR HNE.out).cell (i := 6) rfl
                have d7 : w'.cell? ⟨bx, 7, none⟩ = some (.int .u64 x.de.expire) := (HBX.out.fr hR HNE.out).cell (i := 7) rfl
                go_wp2
                exact ⟨Fr.refl _ _, rfl⟩
              · intro σ w' hR hd
                simp only [fill, Nat.reduceAdd, if_true, Bool.false_eq_true, if_false]
                clear hd
                go_wp2
                exact ⟨Fr.refl _ _, rfl⟩
              · intro σ w' hR hd
                simp only [fill, Nat.reduceAdd, if_true, Bool.false_eq_true, if_false]
                obtain h95 : σ 95 = _ := hd 7 (by decide)
                rw [h95]
                clear h95
                clear hd
                go_wp2
                exact ⟨Fr.refl _ _, rfl⟩
              · intro σ w' hR hd
                simp only [fill, Nat.reduceAdd, if_true, Bool.false_eq_true, if_false]
                obtain h96 : σ 96 = _ := hd 8 (by decide)
                rw [h96]
                clear h96
                clear hd
                have d8 : w'.cell? ⟨bx, 8, none⟩ = some (.int .u64 x.now) := (HBX.out.fr hR HNE.out).cell (i := 8) rfl
                go_wp2
                exact ⟨Fr.refl _ _, rfl⟩
              · intro σ w' hR hd hH
                simp only [fill, Nat.reduceAdd, if_true, Bool.false_eq_true, if_false]
                obtain h91 : σ 91 = _ := hd 3 (by decide)
                obtain h94 : σ 94 = _ := hd 6 (by decide)
                obtain h97 : σ 97 = _ := hd 9 (by decide)
                rw [h91, h94, h97]
                clear h91 h94 h97
                clear hd
                go_wp2_with fail
                refine (insert_calls hH.m HSL.out x.de x.now).mono ?_
                rintro r w4 ⟨rfl, hm0, hf0⟩
                have hp4 := Hd.mk (hH.putL hf0 hm0)
                have hf4 := Hd.mk hf0
                clear hf0 hm0 hH
                rw [HIC.out]
                go_wp2
                exact ⟨hf4.out.mono (by simp [Pt.wr]), rfl, hp4.out⟩
              · intro σ w' hR hd
                simp only [fill, Nat.reduceAdd, if_true, Bool.false_eq_true, if_false]
                obtain h98 : σ 98 = _ := hd 10 (by decide)
                rw [h98]
                clear h98
                clear hd
                go_wp2
                exact ⟨Fr.refl _ _, by show Value.bool (ic == 0) = _; rw [HC0.out]⟩
            · intro σ w3 hR hG hH
              obtain h99 : σ 99 = _ := hG 11 (by decide)
              simp only [fill, Nat.reduceAdd, if_true, Bool.false_eq_true, if_false, h99]
              clear h99
              clear hG
              have HP5 := Hd.mk hH
              have HF5 := Hd.mk (HFW.out.trans (((Fr.refl [] wr).drew.mono (T := P.wr) (by simp)).trans hR))
              have HB5 := Hd.mk (HBX.out.fr hR HNE.out)
              obtain ⟨w5, hw5⟩ : ∃ y, w3 = y := ⟨_, rfl⟩
              rw [hw5] at HP5 HF5 HB5 ⊢
              clear hR hH hw5
              cases c0 with
              | false =>
                have HSS : Hd (insPut (dropAll s x.G) P.room x = ⟨insL s2.L P.room x.de x.now, s2.E⟩) := Hd.mk (by unfold insPut; rw [HS2.out, HIC.out, if_neg (by have := HC0.out; simpa using this)])
                go_wp2
                go_ret
                exact ⟨by rw [HGO.out.1]; rfl, by rw [HGO.out.2, HSS.out]; exact HP5.out, HF5.out⟩
              | true =>
                have HSS : Hd (insPut (dropAll s x.G) P.room x = ⟨insL s2.L P.room x.de x.now, putL s2.E x.de.q x.de.expire⟩) := Hd.mk (by unfold insPut; rw [HS2.out, HIC.out, if_pos (by have := HC0.out; simpa using this)])
                have c1 : w5.cell? ⟨bx, 1, none⟩ = some (.string x.de.q.name) := HB5.out.cell (i := 1) rfl
                have c2 : w5.cell? ⟨bx, 2, none⟩ = some (.int .u16 x.de.q.ty) := HB5.out.cell (i := 2) rfl
                have c3 : w5.cell? ⟨bx, 3, none⟩ = some (.int .u16 x.de.q.cl) := HB5.out.cell (i := 3) rfl
                have c4 : w5.cell? ⟨bx, 4, none⟩ = some (.slice x.de.ra x.de.rn x.de.rc) := HB5.out.cell (i := 4) rfl
                have c5 : w5.cell? ⟨bx, 5, none⟩ = some (.int .i64 x.de.rcode) := HB5.out.cell (i := 5) rfl
                have c6 : w5.cell? ⟨bx, 6, none⟩ = some (.int .i64 x.de.rank) := HB5.out.cell (i := 6) rfl
                have c7 : w5.cell? ⟨bx, 7, none⟩ = some (.int .u64 x.de.expire) := HB5.out.cell (i := 7) rfl
                go_wp2_with fail
                refine (put_calls HP5.out HSE.out x.de).mono ?_
                rintro r w6 ⟨rfl, hp6, hf6⟩
                have HP6 := Hd.mk hp6
                have HF6 := Hd.mk (HF5.out.trans (hf6.mono (T := P.wr) (by simp [Pt.wr])))
                clear hp6 hf6 c1 c2 c3 c4 c5 c6 c7
                go_wp2
                go_ret
                exact ⟨by rw [HGO.out.1]; rfl, by rw [HGO.out.2, HSS.out]; exact HP6.out, HF6.out⟩
end Go.Proofs.Ytbmejolmbfmdiaa
