import Derived.Test.YtbmejolmbfmdiaaH8
namespace Go.Proofs.Ytbmejolmbfmdiaa
open Go Go.RowKit Go.Lib Go.Proofs.MapL

def dropS (s : Ps) (q : Qn) : Ps := ⟨delE s.L q, delL s.E q⟩
def evOkB (ρ : En → List Rr) (s : Ps) (x : Ev) : Bool := sameB ρ x.told zeroE && (x.is == (findE s.L x.de.q).isSome) && decide (x.err = 0) && (if (findE s.L x.de.q).isSome then decide (x.G = [x.de.q]) else decide (x.G.length = 0))
def evS (ρ : En → List Rr) (s : Ps) (x : Ev) : Ps := if evOkB ρ s x then dropS s x.de.q else s
theorem ev_no {ρ : En → List Rr} {s : Ps} {x : Ev} (h : evOkB ρ s x = false) : evOkB ρ s x = false ∧ evS ρ s x = s := ⟨h, by unfold evS; rw [h]; rfl⟩
theorem ev_yes {ρ : En → List Rr} {s : Ps} {x : Ev} (h : evOkB ρ s x = true) : evOkB ρ s x = true ∧ evS ρ s x = dropS s x.de.q := ⟨h, by unfold evS; rw [h]; rfl⟩
theorem one_slice (w : World) (q : Qn) : SlIs Qn.c 3 (w.alloc (.cells #[.string q.name, .int .u16 q.ty, .int .u16 q.cl] 28)) (some ⟨w.heap.size, 0, none⟩) 1 [q] := by
  refine ⟨rfl, by simp, fun _ => ⟨w.heap.size, 0, rfl, by simp, ?_⟩⟩
  intro i hi j u hu
  have hi : i = 0 := by simpa using hi
  subst hi
  have hb : Blk (w.alloc (.cells q.c.toArray 28)) w.heap.size 28 q.c := Blk.new _ _ _
  have e := hb.cell (i := j) hu
  rw [show (0 : Nat) + 0 * 3 + j = j by omega]
  exact e
set_option maxRecDepth 100000 in
set_option maxHeartbeats 8000000 in
theorem hevict_calls {w0 w : World} (h0 : Fr [] w0 w) {P : Pt} {s : Ps} (h : PtAt w P s) {x : Ev} (hx : EvOK w0 x) : Calls Try.prog 16 #[.pointer (some ⟨P.pp, 0, none⟩), x.v] w fun r w' => r = .returned (.bool (evOkB (rho w0) s x)) ∧ PtAt w' P (evS (rho w0) s x) ∧ Fr P.wr w w' := by
  obtain ⟨hb, hhb⟩ : ∃ b, (findE s.L x.de.q).isSome = b := ⟨_, rfl⟩
  obtain ⟨sb, hsb⟩ : ∃ b, sameB (rho w0) x.told zeroE = b := ⟨_, rfl⟩
  obtain ⟨xi, hxi⟩ : ∃ b, x.is = b := ⟨_, rfl⟩
  have HIS := Hd.mk hhb
  have HS := Hd.mk hsb
  have HXI := Hd.mk hxi
  have HX := Hd.mk hx
  have HGN := Hd.mk hx.gone.n
  have H := Hd.mk h
  have H0 := Hd.mk h0
  clear h hhb hsb hxi hx h0
  unfold Ev.v
  rw [HXI.out]
  go_enter Try.func16, Try.ntmps16
  go_upto_region 1 with (fail)
  refine wp_name ?_; intro w1 hw1
  have hf1 := alloc_of hw1
  have hb1 := blk_of (T := 38) (c := [.int .i64 x.kind, .string x.de.q.name, .int .u16 x.de.q.ty, .int .u16 x.de.q.cl, .slice x.de.ra x.de.rn x.de.rc, .int .i64 x.de.rcode, .int .i64 x.de.rank, .int .u64 x.de.expire, .int .u64 x.now, .int .i64 x.sh, .string x.told.q.name, .int .u16 x.told.q.ty, .int .u16 x.told.q.cl, .slice x.told.ra x.told.rn x.told.rc, .int .i64 x.told.rcode, .int .i64 x.told.rank, .int .u64 x.told.expire, .bool xi, .int .i64 x.err, .slice x.ga x.gn x.gc]) hw1
  clear hw1
  obtain ⟨bx, hbx⟩ : ∃ p, w.heap.size = p := ⟨_, rfl⟩
  rw [hbx] at hb1 ⊢
  have HF1 := Hd.mk hf1.drew
  have H1 := H.out.fr0 hf1
  have HPB : Hd (Blk w1.drew P.pp 57 [.pointer (some ⟨P.pm, 0, none⟩), .map (some P.be)]) := Hd.mk H1.blk.drew
  have HBX : Hd (Blk w1.drew bx 38 [.int .i64 x.kind, .string x.de.q.name, .int .u16 x.de.q.ty, .int .u16 x.de.q.cl, .slice x.de.ra x.de.rn x.de.rc, .int .i64 x.de.rcode, .int .i64 x.de.rank, .int .u64 x.de.expire, .int .u64 x.now, .int .i64 x.sh, .string x.told.q.name, .int .u16 x.told.q.ty, .int .u16 x.told.q.cl, .slice x.told.ra x.told.rn x.told.rc, .int .i64 x.told.rcode, .int .i64 x.told.rank, .int .u64 x.told.expire, .bool xi, .int .i64 x.err, .slice x.ga x.gn x.gc]) := Hd.mk hb1.drew
  have HMM : Hd (MAt w1.drew P.pm P.bm P.room s.L) := Hd.mk (H1.m.fr ((Fr.refl [] w1).drew) (by simp) (by simp))
  clear hf1 hb1 hbx H1
  go_wp2_with fail
  refine wp_region_gs { R := Fr [], R1 := Fr [], gs := [Is (.pointer (some ⟨P.pp, 0, none⟩)), Is (.pointer (some ⟨P.pp, 0, none⟩)), Is (.pointer (some ⟨P.pp, 0, none⟩)), Is (.pointer (some ⟨P.pm, 0, none⟩)), Is (.pointer (some ⟨bx, 0, none⟩)), Is (.pointer (some ⟨bx, 1, none⟩)), Is (.pointer (some ⟨bx, 1, none⟩)), Is (.agg #[.string x.de.q.name, .int .u16 x.de.q.ty, .int .u16 x.de.q.cl]), Is (.bool hb), Is (.bool hb)], ds := [some 7, some 8, some 9, some 10, some 11, some 12, some 13, some 14, some 15, some 5], fl := [false, false, false, false, false, false, false, false, false, false], hs := [], hd := [] } [false, false, false, false, false, true, false, true, true, true, true, true, true, true, true, true, false, false, false, false, false, false, false, false, false, false, false, false, false, false, false, false, false, false, false, false, false, false, false, false, false, false, false, false, false, false, false, false, false, false, false, false, false, false, false, false, false, false, false, false, false, false] (by kernel_rfl) _ (by kernel_rfl) (by kernel_rfl) (by kernel_rfl) (by kernel_rfl) rfl [] (fun _ _ _ h1 h2 => h1.trans h2) (fun _ _ h => h) (staI (staI (staI (staI (staI (staI (staI (staI (staI (staI sta0)))))))))) sth0 (fun _ _ h => h.size) _ (Fr.refl _ _) trivial ?_ ?_
  · refine ⟨?_, ?_, ?_, ?_, ?_, ?_, ?_, ?_, ?_, ?_, trivial⟩
    · intro σ w' hR hd
      simp only [fill, Nat.reduceAdd, if_true, Bool.false_eq_true, if_false]
      clear hd
      go_wp2
      exact ⟨Fr.refl _ _, rfl⟩
    · intro σ w' hR hd
      simp only [fill, Nat.reduceAdd, if_true, Bool.false_eq_true, if_false]
      obtain h7 : σ 7 = _ := hd 0 (by decide)
      rw [h7]
      clear h7
      clear hd
      go_wp2
      exact ⟨Fr.refl _ _, rfl⟩
    · intro σ w' hR hd
      simp only [fill, Nat.reduceAdd, if_true, Bool.false_eq_true, if_false]
      obtain h8 : σ 8 = _ := hd 1 (by decide)
      rw [h8]
      clear h8
      clear hd
      go_wp2
      exact ⟨Fr.refl _ _, rfl⟩
    · intro σ w' hR hd
      simp only [fill, Nat.reduceAdd, if_true, Bool.false_eq_true, if_false]
      obtain h9 : σ 9 = _ := hd 2 (by decide)
      rw [h9]
      clear h9
      clear hd
      have d0 : w'.cell? ⟨P.pp, 0, none⟩ = some (.pointer (some ⟨P.pm, 0, none⟩)) := (HPB.out.fr hR (by simp)).cell (i := 0) rfl
      go_wp2
      exact ⟨Fr.refl _ _, rfl⟩
    · intro σ w' hR hd
      simp only [fill, Nat.reduceAdd, if_true, Bool.false_eq_true, if_false]
      clear hd
      go_wp2
      exact ⟨Fr.refl _ _, rfl⟩
    · intro σ w' hR hd
      simp only [fill, Nat.reduceAdd, if_true, Bool.false_eq_true, if_false]
      obtain h11 : σ 11 = _ := hd 4 (by decide)
      rw [h11]
      clear h11
      clear hd
      go_wp2
      exact ⟨Fr.refl _ _, rfl⟩
    · intro σ w' hR hd
      simp only [fill, Nat.reduceAdd, if_true, Bool.false_eq_true, if_false]
      obtain h12 : σ 12 = _ := hd 5 (by decide)
      rw [h12]
      clear h12
      clear hd
      go_wp2
      exact ⟨Fr.refl _ _, rfl⟩
    · intro σ w' hR hd
      simp only [fill, Nat.reduceAdd, if_true, Bool.false_eq_true, if_false]
      obtain h13 : σ 13 = _ := hd 6 (by decide)
      rw [h13]
      clear h13
      clear hd
      have d1 : w'.cell? ⟨bx, 1, none⟩ = some (.string x.de.q.name) := (HBX.out.fr hR (by simp)).cell (i := 1) rfl
      have d2 : w'.cell? ⟨bx, 2, none⟩ = some (.int .u16 x.de.q.ty) := (HBX.out.fr hR (by simp)).cell (i := 2) rfl
      have d3 : w'.cell? ⟨bx, 3, none⟩ = some (.int .u16 x.de.q.cl) := (HBX.out.fr hR (by simp)).cell (i := 3) rfl
      go_wp2
      exact ⟨Fr.refl _ _, rfl⟩
    · intro σ w' hR hd
      simp only [fill, Nat.reduceAdd, if_true, Bool.false_eq_true, if_false]
      obtain h10 : σ 10 = _ := hd 3 (by decide)
      obtain h14 : σ 14 = _ := hd 7 (by decide)
      rw [h10, h14]
      clear h10 h14
      clear hd
      have hm4 := HMM.out.fr hR (by simp) (by simp)
      go_wp2_with fail
      refine (has_calls hm4 x.de.q).mono ?_
      rintro r w4 ⟨rfl, hf0⟩
      have hf4 := Hd.mk hf0
      clear hf0
      rw [HIS.out]
      go_wp2
      exact ⟨hf4.out, rfl⟩
    · intro σ w' hR hd
      simp only [fill, Nat.reduceAdd, if_true, Bool.false_eq_true, if_false]
      obtain h15 : σ 15 = _ := hd 8 (by decide)
      rw [h15]
      clear h15
      clear hd
      go_wp2
      exact ⟨Fr.refl _ _, rfl⟩
  · intro σ w3 hR hG hH
    obtain h5 : σ 5 = _ := hG 9 (by decide)
    simp only [fill, Nat.reduceAdd, if_true, Bool.false_eq_true, if_false, h5]
    clear h5
    clear hG
    have HF5 := Hd.mk (HF1.out.trans hR)
    have HBX5 := Hd.mk (HBX.out.fr hR (by simp))
    obtain ⟨w5, hw5⟩ : ∃ x, w3 = x := ⟨_, rfl⟩
    rw [hw5] at HF5 HBX5 ⊢
    have c10 : w5.cell? ⟨bx, 10, none⟩ = some (.string x.told.q.name) := (HBX5.out).cell (i := 10) rfl
    have c11 : w5.cell? ⟨bx, 11, none⟩ = some (.int .u16 x.told.q.ty) := (HBX5.out).cell (i := 11) rfl
    have c12 : w5.cell? ⟨bx, 12, none⟩ = some (.int .u16 x.told.q.cl) := (HBX5.out).cell (i := 12) rfl
    have c13 : w5.cell? ⟨bx, 13, none⟩ = some (.slice x.told.ra x.told.rn x.told.rc) := (HBX5.out).cell (i := 13) rfl
    have c14 : w5.cell? ⟨bx, 14, none⟩ = some (.int .i64 x.told.rcode) := (HBX5.out).cell (i := 14) rfl
    have c15 : w5.cell? ⟨bx, 15, none⟩ = some (.int .i64 x.told.rank) := (HBX5.out).cell (i := 15) rfl
    have c16 : w5.cell? ⟨bx, 16, none⟩ = some (.int .u64 x.told.expire) := (HBX5.out).cell (i := 16) rfl
    clear hw5 hR
    go_wp2_with fail
    refine (same_calls (a := x.told) (b := zeroE) (H0.out.trans HF5.out) HX.out.told (zeroE_ok _)).mono ?_
    rintro r w6 ⟨rfl, hf6⟩
    have HF6 := Hd.mk (HF5.out.trans hf6)
    rw [HS.out]
    have hb6 := HBX5.out.fr hf6 (by simp)
    have HB6 := Hd.mk hb6
    have HP6 := Hd.mk (H.out.fr0 HF6.out)
    have c17 : w6.cell? ⟨bx, 17, none⟩ = some (.bool xi) := (hb6).cell (i := 17) rfl
    have c18 : w6.cell? ⟨bx, 18, none⟩ = some (.int .i64 x.err) := (hb6).cell (i := 18) rfl
    have c19 : w6.cell? ⟨bx, 19, none⟩ = some (.slice x.ga x.gn x.gc) := (hb6).cell (i := 19) rfl
    clear hf6 hb6
    cases sb with
    | false =>
      have HGO := Hd.mk (ev_no (ρ := rho w0) (s := s) (x := x) (by unfold evOkB; rw [HS.out]; rfl))
      go_wp2
      go_ret
      exact ⟨by rw [HGO.out.1]; rfl, by rw [HGO.out.2]; exact HP6.out, HF6.out.mono (by simp)⟩
    | true =>
      cases hb with
      | false =>
        cases xi with
        | false =>
          by_cases he : x.err = 0
          · rw [he] at c18
            have HER : Hd (decide (x.err = 0) = true) := Hd.mk (decide_eq_true he)
            clear he
            by_cases hl : x.gn = 0
            · rw [hl] at c19
              have HL : Hd (decide (x.G.length = 0) = true) := Hd.mk (decide_eq_true (HGN.out ▸ hl : x.G.length = 0))
              clear hl
              have HGO := Hd.mk (ev_yes (ρ := rho w0) (s := s) (x := x) (by unfold evOkB; rw [HS.out, HXI.out, HIS.out, HER.out, HL.out]; rfl))
              have c1 : w6.cell? ⟨bx, 1, none⟩ = some (.string x.de.q.name) := (HB6.out).cell (i := 1) rfl
              have c2 : w6.cell? ⟨bx, 2, none⟩ = some (.int .u16 x.de.q.ty) := (HB6.out).cell (i := 2) rfl
              have c3 : w6.cell? ⟨bx, 3, none⟩ = some (.int .u16 x.de.q.cl) := (HB6.out).cell (i := 3) rfl
              go_wp2_with fail
              refine (pdrop_calls HP6.out x.de.q).mono ?_
              rintro r w9 ⟨rfl, hp9, hf9⟩
              have HP9 := Hd.mk hp9
              have HF9 := Hd.mk ((HF6.out.mono (T := P.wr) (by simp)).trans hf9)
              clear hp9 hf9 c1 c2 c3
              go_wp2
              go_ret
              exact ⟨by rw [HGO.out.1]; rfl, by rw [HGO.out.2]; exact HP9.out, HF9.out⟩
            · have HL : Hd (decide (x.G.length = 0) = false) := Hd.mk (decide_eq_false (HGN.out ▸ hl : ¬ x.G.length = 0))
              have HL' : Hd (¬ (x.gn : Int) = 0) := Hd.mk (by omega)
              have hl' := HL'.out
              clear hl
              have HGO := Hd.mk (ev_no (ρ := rho w0) (s := s) (x := x) (by unfold evOkB; rw [HS.out, HXI.out, HIS.out, HER.out, HL.out]; rfl))
              go_wp2
              go_ret
              exact ⟨by rw [HGO.out.1]; show Ending.returned (Value.bool ((x.gn : Int) == 0)) = _; rw [beq_eq_false_iff_ne.2 HL'.out], by rw [HGO.out.2]; exact HP6.out, HF6.out.mono (by simp)⟩
          · have HER : Hd (decide (x.err = 0) = false) := Hd.mk (decide_eq_false he)
            have HGO := Hd.mk (ev_no (ρ := rho w0) (s := s) (x := x) (by unfold evOkB; rw [HER.out, Bool.and_false, Bool.false_and]))
            go_wp2
            go_ret
            exact ⟨by rw [HGO.out.1]; rfl, by rw [HGO.out.2]; exact HP6.out, HF6.out.mono (by simp)⟩
        | true =>
          have HGO := Hd.mk (ev_no (ρ := rho w0) (s := s) (x := x) (by unfold evOkB; rw [HXI.out, HIS.out]; simp))
          go_wp2
          go_ret
          exact ⟨by rw [HGO.out.1]; rfl, by rw [HGO.out.2]; exact HP6.out, HF6.out.mono (by simp)⟩
      | true =>
        cases xi with
        | false =>
          have HGO := Hd.mk (ev_no (ρ := rho w0) (s := s) (x := x) (by unfold evOkB; rw [HXI.out, HIS.out]; simp))
          go_wp2
          go_ret
          exact ⟨by rw [HGO.out.1]; rfl, by rw [HGO.out.2]; exact HP6.out, HF6.out.mono (by simp)⟩
        | true =>
          by_cases he : x.err = 0
          · rw [he] at c18
            have HER : Hd (decide (x.err = 0) = true) := Hd.mk (decide_eq_true he)
            clear he
            have c1 : w6.cell? ⟨bx, 1, none⟩ = some (.string x.de.q.name) := (HB6.out).cell (i := 1) rfl
            have c2 : w6.cell? ⟨bx, 2, none⟩ = some (.int .u16 x.de.q.ty) := (HB6.out).cell (i := 2) rfl
            have c3 : w6.cell? ⟨bx, 3, none⟩ = some (.int .u16 x.de.q.cl) := (HB6.out).cell (i := 3) rfl
            go_wp2_with fail
            refine (qeq_calls (l := x.G) (l' := [x.de.q]) (HX.out.gone.fr ((H0.out.trans HF6.out).alloc _)) (one_slice w6 x.de.q)).mono ?_
            rintro r w7 ⟨rfl, hf7⟩
            have hfa := ((Fr.refl [] w6).alloc (.cells #[.string x.de.q.name, .int .u16 x.de.q.ty, .int .u16 x.de.q.cl] 28)).trans hf7
            have HF7 := Hd.mk (HF6.out.trans hfa)
            have HB7 := Hd.mk (HB6.out.fr hfa (by simp))
            have HP7 := Hd.mk (HP6.out.fr0 hfa)
            clear hf7 hfa c1 c2 c3 c17 c18 c19
            cases hg : decide (x.G = [x.de.q]) with
            | false =>
              have HL := Hd.mk hg
              clear hg
              have HGO := Hd.mk (ev_no (ρ := rho w0) (s := s) (x := x) (by unfold evOkB; rw [HS.out, HXI.out, HIS.out, HER.out, HL.out]; rfl))
              go_wp2
              go_ret
              exact ⟨by rw [HGO.out.1]; rfl, by rw [HGO.out.2]; exact HP7.out, HF7.out.mono (by simp)⟩
            | true =>
              have HL := Hd.mk hg
              clear hg
              have HGO := Hd.mk (ev_yes (ρ := rho w0) (s := s) (x := x) (by unfold evOkB; rw [HS.out, HXI.out, HIS.out, HER.out, HL.out]; rfl))
              have c1 : w7.cell? ⟨bx, 1, none⟩ = some (.string x.de.q.name) := (HB7.out).cell (i := 1) rfl
              have c2 : w7.cell? ⟨bx, 2, none⟩ = some (.int .u16 x.de.q.ty) := (HB7.out).cell (i := 2) rfl
              have c3 : w7.cell? ⟨bx, 3, none⟩ = some (.int .u16 x.de.q.cl) := (HB7.out).cell (i := 3) rfl
              go_wp2_with fail
              refine (pdrop_calls HP7.out x.de.q).mono ?_
              rintro r w9 ⟨rfl, hp9, hf9⟩
              have HP9 := Hd.mk hp9
              have HF9 := Hd.mk ((HF7.out.mono (T := P.wr) (by simp)).trans hf9)
              clear hp9 hf9 c1 c2 c3
              go_wp2
              go_ret
              exact ⟨by rw [HGO.out.1]; rfl, by rw [HGO.out.2]; exact HP9.out, HF9.out⟩
          · have HER : Hd (decide (x.err = 0) = false) := Hd.mk (decide_eq_false he)
            have HGO := Hd.mk (ev_no (ρ := rho w0) (s := s) (x := x) (by unfold evOkB; rw [HER.out, Bool.and_false, Bool.false_and]))
            go_wp2
            go_ret
            exact ⟨by rw [HGO.out.1]; rfl, by rw [HGO.out.2]; exact HP6.out, HF6.out.mono (by simp)⟩
end Go.Proofs.Ytbmejolmbfmdiaa
