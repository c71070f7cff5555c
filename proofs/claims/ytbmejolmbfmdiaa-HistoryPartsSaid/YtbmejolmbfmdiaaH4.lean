import Derived.Test.YtbmejolmbfmdiaaH3
namespace Go.Proofs.Ytbmejolmbfmdiaa
open Go Go.RowKit Go.Lib Go.Proofs.MapL

/-- An event. -/
structure Ev where
  kind : Int
  de : En
  now : Int
  sh : Int
  told : En
  is : Bool
  err : Int
  ga : Option Addr
  gn : Nat
  gc : Nat
  G : List Qn
def Ev.v (x : Ev) : Value := .agg #[.int .i64 x.kind, .string x.de.q.name, .int .u16 x.de.q.ty, .int .u16 x.de.q.cl, .slice x.de.ra x.de.rn x.de.rc, .int .i64 x.de.rcode, .int .i64 x.de.rank, .int .u64 x.de.expire, .int .u64 x.now, .int .i64 x.sh, .string x.told.q.name, .int .u16 x.told.q.ty, .int .u16 x.told.q.cl, .slice x.told.ra x.told.rn x.told.rc, .int .i64 x.told.rcode, .int .i64 x.told.rank, .int .u64 x.told.expire, .bool x.is, .int .i64 x.err, .slice x.ga x.gn x.gc]
structure EvOK (w : World) (x : Ev) : Prop where
  de : RecOK w x.de
  told : RecOK w x.told
  gone : SlIs Qn.c 3 w x.ga x.gn x.G
def zeroE : En := ⟨⟨⟨#[]⟩, 0, 0, ⟨Nat.zero_le _, by omega, by omega⟩⟩, none, 0, 0, 0, 0, 0⟩
theorem zeroE_ok (w : World) : RecOK w zeroE := ⟨[], ⟨rfl, Nat.zero_le _, fun h => absurd h (Nat.lt_irrefl _)⟩⟩
/-- An event that tells nothing but who went, and an error. -/
def bareB (ρ : En → List Rr) (x : Ev) : Bool := sameB ρ x.told zeroE && !x.is
set_option maxRecDepth 100000 in
set_option maxHeartbeats 8000000 in
theorem bare_calls {w0 w : World} (h0 : Fr [] w0 w) {x : Ev} (hx : EvOK w0 x) : Calls Try.prog 18 #[x.v] w fun r w' => r = .returned (.bool (bareB (rho w0) x)) ∧ Fr [] w w' := by
  have H0 := Hd.mk h0
  have HX := Hd.mk hx
  obtain ⟨sb, hsb⟩ : ∃ b, sameB (rho w0) x.told zeroE = b := ⟨_, rfl⟩
  have hb : bareB (rho w0) x = (sb && !x.is) := by unfold bareB; rw [hsb]
  rw [hb]
  have HS := Hd.mk hsb
  clear hb hsb h0 hx
  unfold Ev.v
  go_enter Try.func18, Try.ntmps18
  go_upto_region 1 with (fail)
  refine wp_name ?_; intro w1 hw1
  have hf1 := alloc_of hw1
  have hb1 := blk_of (T := 38) (c := [.int .i64 x.kind, .string x.de.q.name, .int .u16 x.de.q.ty, .int .u16 x.de.q.cl, .slice x.de.ra x.de.rn x.de.rc, .int .i64 x.de.rcode, .int .i64 x.de.rank, .int .u64 x.de.expire, .int .u64 x.now, .int .i64 x.sh, .string x.told.q.name, .int .u16 x.told.q.ty, .int .u16 x.told.q.cl, .slice x.told.ra x.told.rn x.told.rc, .int .i64 x.told.rcode, .int .i64 x.told.rank, .int .u64 x.told.expire, .bool x.is, .int .i64 x.err, .slice x.ga x.gn x.gc]) hw1
  clear hw1
  obtain ⟨bx, hbx⟩ : ∃ p, w.heap.size = p := ⟨_, rfl⟩
  rw [hbx] at hb1 ⊢
  have HF := Hd.mk hf1
  have HB := Hd.mk hb1
  have e10 : w1.cell? ⟨bx, 10, none⟩ = some (.string x.told.q.name) := hb1.cell (i := 10) rfl
  have e11 : w1.cell? ⟨bx, 11, none⟩ = some (.int .u16 x.told.q.ty) := hb1.cell (i := 11) rfl
  have e12 : w1.cell? ⟨bx, 12, none⟩ = some (.int .u16 x.told.q.cl) := hb1.cell (i := 12) rfl
  have e13 : w1.cell? ⟨bx, 13, none⟩ = some (.slice x.told.ra x.told.rn x.told.rc) := hb1.cell (i := 13) rfl
  have e14 : w1.cell? ⟨bx, 14, none⟩ = some (.int .i64 x.told.rcode) := hb1.cell (i := 14) rfl
  have e15 : w1.cell? ⟨bx, 15, none⟩ = some (.int .i64 x.told.rank) := hb1.cell (i := 15) rfl
  have e16 : w1.cell? ⟨bx, 16, none⟩ = some (.int .u64 x.told.expire) := hb1.cell (i := 16) rfl
  clear hf1 hb1 hbx
  go_wp2_with fail
  refine (same_calls (a := x.told) (b := zeroE) (H0.out.trans HF.out) HX.out.told (zeroE_ok _)).mono ?_
  rintro r w5 ⟨rfl, hf5⟩
  have HF5 := Hd.mk (HF.out.trans hf5)
  have c17 : w5.cell? ⟨bx, 17, none⟩ = some (.bool x.is) := (HB.out.fr hf5 (by simp)).cell (i := 17) rfl
  clear hf5
  rw [HS.out]
  cases sb with
  | false =>
    go_wp2
    go_ret
    exact ⟨rfl, HF5.out⟩
  | true =>
    go_wp2
    go_ret
    exact ⟨rfl, HF5.out⟩
/-! ### each -/
/-- Until when an entry is told, if it is there. -/
def endE (E : List (Qn × Int)) (q : Qn) : Int := (findL E q).getD 0
theorem end_v (E : List (Qn × Int)) (q : Qn) : ((findL E q).map vU).getD (.int .u64 0) = .int .u64 (endE E q) := by
  unfold endE
  cases findL E q <;> rfl
theorem zeroU (w : World) : (zeroValue 30).run Try.prog w = .ok (.int .u64 0) w := by kernel_rfl
/-- An entry that is there, and isn't live. -/
def goB (s : Ps) (now : Int) (q : Qn) : Bool := (findE s.L q).isSome && !liveB (endE s.E q) now
set_option maxRecDepth 100000 in
set_option maxHeartbeats 8000000 in
theorem clo34_calls {w : World} {P : Pt} {s : Ps} (h : PtAt w P s) {c1 c2 : Nat} {now : Int} (h1 : Blk w c1 52 [.pointer (some ⟨P.pp, 0, none⟩)]) (h2 : Blk w c2 30 [.int .u64 now]) (q : Qn) : Calls Try.prog 34 #[q.v, .pointer (some ⟨c1, 0, none⟩), .pointer (some ⟨c2, 0, none⟩)] w fun r w' => r = .returned (.bool (goB s now q)) ∧ Fr [] w w' := by
  have H := Hd.mk h
  have H10 := Hd.mk h1
  have H20 := Hd.mk h2
  obtain ⟨x, hx⟩ : ∃ x, endE s.E q = x := ⟨_, rfl⟩
  have HXE : Hd (((findL s.E q).map vU).getD (.int .u64 0) = .int .u64 x) := Hd.mk (by rw [← hx]; exact end_v _ _)
  unfold Qn.v
  cases his : (findE s.L q).isSome with
  | false =>
    have HGO : Hd (goB s now q = false) := Hd.mk (by unfold goB; rw [his]; rfl)
    have HIS := Hd.mk his
    clear h h1 h2 hx his
    go_enter Try.func34, Try.ntmps34
    go_wp2_with fail
    refine wp_name ?_; intro w1 hw1
    have hf1 := alloc_of hw1
    have hb1 := blk_of (T := 28) (c := [.string q.name, .int .u16 q.ty, .int .u16 q.cl]) hw1
    clear hw1
    obtain ⟨bq, hbq⟩ : ∃ p, w.heap.size = p := ⟨_, rfl⟩
    rw [hbq] at hb1 ⊢
    have HF1 := Hd.mk hf1.drew
    have H1 := H.out.fr0 hf1
    have HPB : Hd (Blk w1.drew P.pp 57 [.pointer (some ⟨P.pm, 0, none⟩), .map (some P.be)]) := Hd.mk H1.blk.drew
    have HBX : Hd (Blk w1.drew bq 28 [.string q.name, .int .u16 q.ty, .int .u16 q.cl]) := Hd.mk hb1.drew
    have HC1 : Hd (Blk w1.drew c1 52 [.pointer (some ⟨P.pp, 0, none⟩)]) := Hd.mk (H10.out.fr hf1 (by simp)).drew
    have HC2 : Hd (Blk w1.drew c2 30 [.int .u64 now]) := Hd.mk (H20.out.fr hf1 (by simp)).drew
    have HMM : Hd (MAt w1.drew P.pm P.bm P.room s.L) := Hd.mk (H1.m.fr ((Fr.refl [] w1).drew) (by simp) (by simp))
    have HME : Hd (mapIs Qn.lit vU Try.prog 28 w1.drew P.be s.E) := Hd.mk (mapIs_block H1.e rfl)
    clear hf1 hb1 hbq H1
    refine wp_region_gs { R := Fr [], R1 := Fr [], gs := [Is (.pointer (some ⟨P.pp, 0, none⟩)), Is (.pointer (some ⟨P.pp, 0, none⟩)), Is (.pointer (some ⟨P.pp, 0, none⟩)), Is (.pointer (some ⟨P.pm, 0, none⟩)), Is (.agg #[.string q.name, .int .u16 q.ty, .int .u16 q.cl]), Is (.bool false), Is (.bool false), No, No, No, No, No, No, No, No, No, Is (.bool false), Is (.bool false)], ds := [some 5, some 6, some 7, some 8, some 9, some 10, some 11, some 12, some 13, some 14, some 15, some 16, some 17, some 18, some 19, some 20, some 21, some 4], fl := [false, false, false, false, false, false, false, false, false, false, false, false, false, false, false, false, false, false], hs := [], hd := [] } [false, false, false, false, true, true, true, true, true, true, true, true, true, true, true, true, true, true, true, true, true, true] (by kernel_rfl) _ (by kernel_rfl) (by kernel_rfl) (by kernel_rfl) (by kernel_rfl) rfl [] (fun _ _ _ h1 h2 => h1.trans h2) (fun _ _ h => h) (staI (staI (staI (staI (staI (staI (staI (staN (staN (staN (staN (staN (staN (staN (staN (staN (staI (staI sta0)))))))))))))))))) sth0 (fun _ _ h => h.size) _ (Fr.refl _ _) trivial ?_ ?_
    · refine ⟨?_, ?_, ?_, ?_, ?_, ?_, ?_, ?_, ?_, ?_, ?_, ?_, ?_, ?_, ?_, ?_, ?_, ?_, trivial⟩
      · intro σ w' hR hd
        simp only [fill, Nat.reduceAdd, if_true, Bool.false_eq_true, if_false]
        clear hd
        have d0 : w'.cell? ⟨c1, 0, none⟩ = some (.pointer (some ⟨P.pp, 0, none⟩)) := (HC1.out.fr hR (by simp)).cell (i := 0) rfl
        go_wp2
        exact ⟨Fr.refl _ _, rfl⟩
      · intro σ w' hR hd
        simp only [fill, Nat.reduceAdd, if_true, Bool.false_eq_true, if_false]
        obtain h5 : σ 5 = _ := hd 0 (by decide)
        rw [h5]
        clear h5
        clear hd
        go_wp2
        exact ⟨Fr.refl _ _, rfl⟩
      · intro σ w' hR hd
        simp only [fill, Nat.reduceAdd, if_true, Bool.false_eq_true, if_false]
        obtain h6 : σ 6 = _ := hd 1 (by decide)
        rw [h6]
        clear h6
        clear hd
        go_wp2
        exact ⟨Fr.refl _ _, rfl⟩
      · intro σ w' hR hd
        simp only [fill, Nat.reduceAdd, if_true, Bool.false_eq_true, if_false]
        obtain h7 : σ 7 = _ := hd 2 (by decide)
        rw [h7]
        clear h7
        clear hd
        have d0 : w'.cell? ⟨P.pp, 0, none⟩ = some (.pointer (some ⟨P.pm, 0, none⟩)) := (HPB.out.fr hR (by simp)).cell (i := 0) rfl
        go_wp2
        exact ⟨Fr.refl _ _, rfl⟩
      · intro σ w' hR hd
        simp only [fill, Nat.reduceAdd, if_true, Bool.false_eq_true, if_false]
        clear hd
        have d0 : w'.cell? ⟨bq, 0, none⟩ = some (.string q.name) := (HBX.out.fr hR (by simp)).cell (i := 0) rfl
        have d1 : w'.cell? ⟨bq, 1, none⟩ = some (.int .u16 q.ty) := (HBX.out.fr hR (by simp)).cell (i := 1) rfl
        have d2 : w'.cell? ⟨bq, 2, none⟩ = some (.int .u16 q.cl) := (HBX.out.fr hR (by simp)).cell (i := 2) rfl
        go_wp2
        exact ⟨Fr.refl _ _, rfl⟩
      · intro σ w' hR hd
        simp only [fill, Nat.reduceAdd, if_true, Bool.false_eq_true, if_false]
        obtain h8 : σ 8 = _ := hd 3 (by decide)
        obtain h9 : σ 9 = _ := hd 4 (by decide)
        rw [h8, h9]
        clear h8 h9
        clear hd
        have hm4 := HMM.out.fr hR (by simp) (by simp)
        go_wp2_with fail
        refine (has_calls hm4 q).mono ?_
        rintro r w4 ⟨rfl, hf0⟩
        have hf4 := Hd.mk hf0
        clear hf0
        rw [HIS.out]
        go_wp2
        exact ⟨hf4.out, rfl⟩
      · intro σ w' hR hd
        simp only [fill, Nat.reduceAdd, if_true, Bool.false_eq_true, if_false]
        obtain h10 : σ 10 = _ := hd 5 (by decide)
        rw [h10]
        clear h10
        clear hd
        go_wp2
        exact ⟨Fr.refl _ _, rfl⟩
      · intro σ w' hR hd
        simp only [fill, Nat.reduceAdd, if_true, Bool.false_eq_true, if_false]
        obtain h11 : σ 11 = _ := hd 6 (by decide)
        rw [h11]
        clear h11
        clear hd
        go_wp2
        exact ⟨Fr.refl _ _, trivial⟩
      · intro σ w' hR hd
        simp only [fill, Nat.reduceAdd, if_true, Bool.false_eq_true, if_false]
        obtain h11 : σ 11 = _ := hd 6 (by decide)
        rw [h11]
        clear h11
        clear hd
        go_wp2
        exact ⟨Fr.refl _ _, trivial⟩
      · intro σ w' hR hd
        simp only [fill, Nat.reduceAdd, if_true, Bool.false_eq_true, if_false]
        obtain h11 : σ 11 = _ := hd 6 (by decide)
        rw [h11]
        clear h11
        clear hd
        go_wp2
        exact ⟨Fr.refl _ _, trivial⟩
      · intro σ w' hR hd
        simp only [fill, Nat.reduceAdd, if_true, Bool.false_eq_true, if_false]
        obtain h11 : σ 11 = _ := hd 6 (by decide)
        rw [h11]
        clear h11
        clear hd
        go_wp2
        exact ⟨Fr.refl _ _, trivial⟩
      · intro σ w' hR hd
        simp only [fill, Nat.reduceAdd, if_true, Bool.false_eq_true, if_false]
        obtain h11 : σ 11 = _ := hd 6 (by decide)
        rw [h11]
        clear h11
        clear hd
        go_wp2
        exact ⟨Fr.refl _ _, trivial⟩
      · intro σ w' hR hd
        simp only [fill, Nat.reduceAdd, if_true, Bool.false_eq_true, if_false]
        obtain h11 : σ 11 = _ := hd 6 (by decide)
        rw [h11]
        clear h11
        clear hd
        go_wp2
        exact ⟨Fr.refl _ _, trivial⟩
      · intro σ w' hR hd
        simp only [fill, Nat.reduceAdd, if_true, Bool.false_eq_true, if_false]
        obtain h11 : σ 11 = _ := hd 6 (by decide)
        rw [h11]
        clear h11
        clear hd
        go_wp2
        exact ⟨Fr.refl _ _, trivial⟩
      · intro σ w' hR hd
        simp only [fill, Nat.reduceAdd, if_true, Bool.false_eq_true, if_false]
        obtain h11 : σ 11 = _ := hd 6 (by decide)
        rw [h11]
        clear h11
        clear hd
        go_wp2
        exact ⟨Fr.refl _ _, trivial⟩
      · intro σ w' hR hd
        simp only [fill, Nat.reduceAdd, if_true, Bool.false_eq_true, if_false]
        obtain h11 : σ 11 = _ := hd 6 (by decide)
        rw [h11]
        clear h11
        clear hd
        go_wp2
        exact ⟨Fr.refl _ _, trivial⟩
      · intro σ w' hR hd
        simp only [fill, Nat.reduceAdd, if_true, Bool.false_eq_true, if_false]
        obtain h11 : σ 11 = _ := hd 6 (by decide)
        rw [h11]
        clear h11
        clear hd
        go_wp2
        exact ⟨Fr.refl _ _, rfl⟩
      · intro σ w' hR hd
        simp only [fill, Nat.reduceAdd, if_true, Bool.false_eq_true, if_false]
        obtain h21 : σ 21 = _ := hd 16 (by decide)
        rw [h21]
        clear h21
        clear hd
        go_wp2
        exact ⟨Fr.refl _ _, rfl⟩
    · intro σ w3 hR hG hH
      obtain h4 : σ 4 = _ := hG 17 (by decide)
      simp only [fill, Nat.reduceAdd, if_true, Bool.false_eq_true, if_false, h4]
      clear h4
      clear hG
      go_wp2
      go_ret
      exact ⟨by rw [HGO.out]; rfl, HF1.out.trans hR⟩
  | true =>
    cases hlv : liveB x now with
    | true =>
      have HGO : Hd (goB s now q = false) := Hd.mk (by unfold goB; rw [his, hx, hlv]; rfl)
      have HIS := Hd.mk his
      have HLV := Hd.mk hlv
      clear h h1 h2 hx his hlv
      go_enter Try.func34, Try.ntmps34
      go_wp2_with fail
      refine wp_name ?_; intro w1 hw1
      have hf1 := alloc_of hw1
      have hb1 := blk_of (T := 28) (c := [.string q.name, .int .u16 q.ty, .int .u16 q.cl]) hw1
      clear hw1
      obtain ⟨bq, hbq⟩ : ∃ p, w.heap.size = p := ⟨_, rfl⟩
      rw [hbq] at hb1 ⊢
      have HF1 := Hd.mk hf1.drew
      have H1 := H.out.fr0 hf1
      have HPB : Hd (Blk w1.drew P.pp 57 [.pointer (some ⟨P.pm, 0, none⟩), .map (some P.be)]) := Hd.mk H1.blk.drew
      have HBX : Hd (Blk w1.drew bq 28 [.string q.name, .int .u16 q.ty, .int .u16 q.cl]) := Hd.mk hb1.drew
      have HC1 : Hd (Blk w1.drew c1 52 [.pointer (some ⟨P.pp, 0, none⟩)]) := Hd.mk (H10.out.fr hf1 (by simp)).drew
      have HC2 : Hd (Blk w1.drew c2 30 [.int .u64 now]) := Hd.mk (H20.out.fr hf1 (by simp)).drew
      have HMM : Hd (MAt w1.drew P.pm P.bm P.room s.L) := Hd.mk (H1.m.fr ((Fr.refl [] w1).drew) (by simp) (by simp))
      have HME : Hd (mapIs Qn.lit vU Try.prog 28 w1.drew P.be s.E) := Hd.mk (mapIs_block H1.e rfl)
      clear hf1 hb1 hbq H1
      refine wp_region_gs { R := Fr [], R1 := Fr [], gs := [Is (.pointer (some ⟨P.pp, 0, none⟩)), Is (.pointer (some ⟨P.pp, 0, none⟩)), Is (.pointer (some ⟨P.pp, 0, none⟩)), Is (.pointer (some ⟨P.pm, 0, none⟩)), Is (.agg #[.string q.name, .int .u16 q.ty, .int .u16 q.cl]), Is (.bool true), Is (.bool true), Is (.pointer (some ⟨P.pp, 0, none⟩)), Is (.pointer (some ⟨P.pp, 0, none⟩)), Is (.pointer (some ⟨P.pp, 1, none⟩)), Is (.map (some P.be)), Is (.agg #[.string q.name, .int .u16 q.ty, .int .u16 q.cl]), Is (.int .u64 x), Is (.int .u64 now), Is (.bool true), Is (.bool false), Is (.bool false), Is (.bool false)], ds := [some 5, some 6, some 7, some 8, some 9, some 10, some 11, some 12, some 13, some 14, some 15, some 16, some 17, some 18, some 19, some 20, some 21, some 4], fl := [false, false, false, false, false, false, false, false, false, false, false, false, false, false, false, false, false, false], hs := [], hd := [] } [false, false, false, false, true, true, true, true, true, true, true, true, true, true, true, true, true, true, true, true, true, true] (by kernel_rfl) _ (by kernel_rfl) (by kernel_rfl) (by kernel_rfl) (by kernel_rfl) rfl [] (fun _ _ _ h1 h2 => h1.trans h2) (fun _ _ h => h) (staI (staI (staI (staI (staI (staI (staI (staI (staI (staI (staI (staI (staI (staI (staI (staI (staI (staI sta0)))))))))))))))))) sth0 (fun _ _ h => h.size) _ (Fr.refl _ _) trivial ?_ ?_
      · refine ⟨?_, ?_, ?_, ?_, ?_, ?_, ?_, ?_, ?_, ?_, ?_, ?_, ?_, ?_, ?_, ?_, ?_, ?_, trivial⟩
        · intro σ w' hR hd
          simp only [fill, Nat.reduceAdd, if_true, Bool.false_eq_true, if_false]
          clear hd
          have d0 : w'.cell? ⟨c1, 0, none⟩ = some (.pointer (some ⟨P.pp, 0, none⟩)) := (HC1.out.fr hR (by simp)).cell (i := 0) rfl
          go_wp2
          exact ⟨Fr.refl _ _, rfl⟩
        · intro σ w' hR hd
          simp only [fill, Nat.reduceAdd, if_true, Bool.false_eq_true, if_false]
          obtain h5 : σ 5 = _ := hd 0 (by decide)
          rw [h5]
          clear h5
          clear hd
          go_wp2
          exact ⟨Fr.refl _ _, rfl⟩
        · intro σ w' hR hd
          simp only [fill, Nat.reduceAdd, if_true, Bool.false_eq_true, if_false]
          obtain h6 : σ 6 = _ := hd 1 (by decide)
          rw [h6]
          clear h6
          clear hd
          go_wp2
          exact ⟨Fr.refl _ _, rfl⟩
        · intro σ w' hR hd
          simp only [fill, Nat.reduceAdd, if_true, Bool.false_eq_true, if_false]
          obtain h7 : σ 7 = _ := hd 2 (by decide)
          rw [h7]
          clear h7
          clear hd
          have d0 : w'.cell? ⟨P.pp, 0, none⟩ = some (.pointer (some ⟨P.pm, 0, none⟩)) := (HPB.out.fr hR (by simp)).cell (i := 0) rfl
          go_wp2
          exact ⟨Fr.refl _ _, rfl⟩
        · intro σ w' hR hd
          simp only [fill, Nat.reduceAdd, if_true, Bool.false_eq_true, if_false]
          clear hd
          have d0 : w'.cell? ⟨bq, 0, none⟩ = some (.string q.name) := (HBX.out.fr hR (by simp)).cell (i := 0) rfl
          have d1 : w'.cell? ⟨bq, 1, none⟩ = some (.int .u16 q.ty) := (HBX.out.fr hR (by simp)).cell (i := 1) rfl
          have d2 : w'.cell? ⟨bq, 2, none⟩ = some (.int .u16 q.cl) := (HBX.out.fr hR (by simp)).cell (i := 2) rfl
          go_wp2
          exact ⟨Fr.refl _ _, rfl⟩
        · intro σ w' hR hd
          simp only [fill, Nat.reduceAdd, if_true, Bool.false_eq_true, if_false]
          obtain h8 : σ 8 = _ := hd 3 (by decide)
          obtain h9 : σ 9 = _ := hd 4 (by decide)
          rw [h8, h9]
          clear h8 h9
          clear hd
          have hm4 := HMM.out.fr hR (by simp) (by simp)
          go_wp2_with fail
          refine (has_calls hm4 q).mono ?_
          rintro r w4 ⟨rfl, hf0⟩
          have hf4 := Hd.mk hf0
          clear hf0
          rw [HIS.out]
          go_wp2
          exact ⟨hf4.out, rfl⟩
        · intro σ w' hR hd
          simp only [fill, Nat.reduceAdd, if_true, Bool.false_eq_true, if_false]
          obtain h10 : σ 10 = _ := hd 5 (by decide)
          rw [h10]
          clear h10
          clear hd
          go_wp2
          exact ⟨Fr.refl _ _, rfl⟩
        · intro σ w' hR hd
          simp only [fill, Nat.reduceAdd, if_true, Bool.false_eq_true, if_false]
          obtain h11 : σ 11 = _ := hd 6 (by decide)
          rw [h11]
          clear h11
          clear hd
          have d0 : w'.cell? ⟨c1, 0, none⟩ = some (.pointer (some ⟨P.pp, 0, none⟩)) := (HC1.out.fr hR (by simp)).cell (i := 0) rfl
          go_wp2
          exact ⟨Fr.refl _ _, rfl⟩
        · intro σ w' hR hd
          simp only [fill, Nat.reduceAdd, if_true, Bool.false_eq_true, if_false]
          obtain h11 : σ 11 = _ := hd 6 (by decide)
          obtain h12 : σ 12 = _ := hd 7 (by decide)
          rw [h11, h12]
          clear h11 h12
          clear hd
          go_wp2
          exact ⟨Fr.refl _ _, rfl⟩
        · intro σ w' hR hd
          simp only [fill, Nat.reduceAdd, if_true, Bool.false_eq_true, if_false]
          obtain h11 : σ 11 = _ := hd 6 (by decide)
          obtain h13 : σ 13 = _ := hd 8 (by decide)
          rw [h11, h13]
          clear h11 h13
          clear hd
          go_wp2
          exact ⟨Fr.refl _ _, rfl⟩
        · intro σ w' hR hd
          simp only [fill, Nat.reduceAdd, if_true, Bool.false_eq_true, if_false]
          obtain h11 : σ 11 = _ := hd 6 (by decide)
          obtain h14 : σ 14 = _ := hd 9 (by decide)
          rw [h11, h14]
          clear h11 h14
          clear hd
          have d0 : w'.cell? ⟨P.pp, 1, none⟩ = some (.map (some P.be)) := (HPB.out.fr hR (by simp)).cell (i := 1) rfl
          go_wp2
          exact ⟨Fr.refl _ _, rfl⟩
        · intro σ w' hR hd
          simp only [fill, Nat.reduceAdd, if_true, Bool.false_eq_true, if_false]
          obtain h11 : σ 11 = _ := hd 6 (by decide)
          rw [h11]
          clear h11
          clear hd
          have d0 : w'.cell? ⟨bq, 0, none⟩ = some (.string q.name) := (HBX.out.fr hR (by simp)).cell (i := 0) rfl
          have d1 : w'.cell? ⟨bq, 1, none⟩ = some (.int .u16 q.ty) := (HBX.out.fr hR (by simp)).cell (i := 1) rfl
          have d2 : w'.cell? ⟨bq, 2, none⟩ = some (.int .u16 q.cl) := (HBX.out.fr hR (by simp)).cell (i := 2) rfl
          go_wp2
          exact ⟨Fr.refl _ _, rfl⟩
        · intro σ w' hR hd
          simp only [fill, Nat.reduceAdd, if_true, Bool.false_eq_true, if_false]
          obtain h11 : σ 11 = _ := hd 6 (by decide)
          obtain h15 : σ 15 = _ := hd 10 (by decide)
          obtain h16 : σ 16 = _ := hd 11 (by decide)
          rw [h11, h15, h16]
          clear h11 h15 h16
          clear hd
          have hm2 := map_fr HME.out hR (by simp)
          have hrun := hm2.look kq Try.underlying55 (zeroU w') (key_q q)
          rw [HXE.out] at hrun
          unfold Qn.v at hrun
          go_wp2
          exact ⟨Fr.refl _ _, rfl⟩
        · intro σ w' hR hd
          simp only [fill, Nat.reduceAdd, if_true, Bool.false_eq_true, if_false]
          obtain h11 : σ 11 = _ := hd 6 (by decide)
          rw [h11]
          clear h11
          clear hd
          have d0 : w'.cell? ⟨c2, 0, none⟩ = some (.int .u64 now) := (HC2.out.fr hR (by simp)).cell (i := 0) rfl
          go_wp2
          exact ⟨Fr.refl _ _, rfl⟩
        · intro σ w' hR hd
          simp only [fill, Nat.reduceAdd, if_true, Bool.false_eq_true, if_false]
          obtain h11 : σ 11 = _ := hd 6 (by decide)
          obtain h17 : σ 17 = _ := hd 12 (by decide)
          obtain h18 : σ 18 = _ := hd 13 (by decide)
          rw [h11, h17, h18]
          clear h11 h17 h18
          clear hd
          go_wp2_with fail
          refine (live_calls _ _ _).mono ?_
          rintro r w4 ⟨rfl, rfl⟩
          rw [HLV.out]
          go_wp2
          exact ⟨Fr.refl _ _, rfl⟩
        · intro σ w' hR hd
          simp only [fill, Nat.reduceAdd, if_true, Bool.false_eq_true, if_false]
          obtain h11 : σ 11 = _ := hd 6 (by decide)
          obtain h19 : σ 19 = _ := hd 14 (by decide)
          rw [h11, h19]
          clear h11 h19
          clear hd
          go_wp2
          exact ⟨Fr.refl _ _, rfl⟩
        · intro σ w' hR hd
          simp only [fill, Nat.reduceAdd, if_true, Bool.false_eq_true, if_false]
          obtain h11 : σ 11 = _ := hd 6 (by decide)
          obtain h20 : σ 20 = _ := hd 15 (by decide)
          rw [h11, h20]
          clear h11 h20
          clear hd
          go_wp2
          exact ⟨Fr.refl _ _, rfl⟩
        · intro σ w' hR hd
          simp only [fill, Nat.reduceAdd, if_true, Bool.false_eq_true, if_false]
          obtain h21 : σ 21 = _ := hd 16 (by decide)
          rw [h21]
          clear h21
          clear hd
          go_wp2
          exact ⟨Fr.refl _ _, rfl⟩
      · intro σ w3 hR hG hH
        obtain h4 : σ 4 = _ := hG 17 (by decide)
        simp only [fill, Nat.reduceAdd, if_true, Bool.false_eq_true, if_false, h4]
        clear h4
        clear hG
        go_wp2
        go_ret
        exact ⟨by rw [HGO.out]; rfl, HF1.out.trans hR⟩
    | false =>
      have HGO : Hd (goB s now q = true) := Hd.mk (by unfold goB; rw [his, hx, hlv]; rfl)
      have HIS := Hd.mk his
      have HLV := Hd.mk hlv
      clear h h1 h2 hx his hlv
      go_enter Try.func34, Try.ntmps34
      go_wp2_with fail
      refine wp_name ?_; intro w1 hw1
      have hf1 := alloc_of hw1
      have hb1 := blk_of (T := 28) (c := [.string q.name, .int .u16 q.ty, .int .u16 q.cl]) hw1
      clear hw1
      obtain ⟨bq, hbq⟩ : ∃ p, w.heap.size = p := ⟨_, rfl⟩
      rw [hbq] at hb1 ⊢
      have HF1 := Hd.mk hf1.drew
      have H1 := H.out.fr0 hf1
      have HPB : Hd (Blk w1.drew P.pp 57 [.pointer (some ⟨P.pm, 0, none⟩), .map (some P.be)]) := Hd.mk H1.blk.drew
      have HBX : Hd (Blk w1.drew bq 28 [.string q.name, .int .u16 q.ty, .int .u16 q.cl]) := Hd.mk hb1.drew
      have HC1 : Hd (Blk w1.drew c1 52 [.pointer (some ⟨P.pp, 0, none⟩)]) := Hd.mk (H10.out.fr hf1 (by simp)).drew
      have HC2 : Hd (Blk w1.drew c2 30 [.int .u64 now]) := Hd.mk (H20.out.fr hf1 (by simp)).drew
      have HMM : Hd (MAt w1.drew P.pm P.bm P.room s.L) := Hd.mk (H1.m.fr ((Fr.refl [] w1).drew) (by simp) (by simp))
      have HME : Hd (mapIs Qn.lit vU Try.prog 28 w1.drew P.be s.E) := Hd.mk (mapIs_block H1.e rfl)
      clear hf1 hb1 hbq H1
      refine wp_region_gs { R := Fr [], R1 := Fr [], gs := [Is (.pointer (some ⟨P.pp, 0, none⟩)), Is (.pointer (some ⟨P.pp, 0, none⟩)), Is (.pointer (some ⟨P.pp, 0, none⟩)), Is (.pointer (some ⟨P.pm, 0, none⟩)), Is (.agg #[.string q.name, .int .u16 q.ty, .int .u16 q.cl]), Is (.bool true), Is (.bool true), Is (.pointer (some ⟨P.pp, 0, none⟩)), Is (.pointer (some ⟨P.pp, 0, none⟩)), Is (.pointer (some ⟨P.pp, 1, none⟩)), Is (.map (some P.be)), Is (.agg #[.string q.name, .int .u16 q.ty, .int .u16 q.cl]), Is (.int .u64 x), Is (.int .u64 now), Is (.bool false), Is (.bool true), Is (.bool true), Is (.bool true)], ds := [some 5, some 6, some 7, some 8, some 9, some 10, some 11, some 12, some 13, some 14, some 15, some 16, some 17, some 18, some 19, some 20, some 21, some 4], fl := [false, false, false, false, false, false, false, false, false, false, false, false, false, false, false, false, false, false], hs := [], hd := [] } [false, false, false, false, true, true, true, true, true, true, true, true, true, true, true, true, true, true, true, true, true, true] (by kernel_rfl) _ (by kernel_rfl) (by kernel_rfl) (by kernel_rfl) (by kernel_rfl) rfl [] (fun _ _ _ h1 h2 => h1.trans h2) (fun _ _ h => h) (staI (staI (staI (staI (staI (staI (staI (staI (staI (staI (staI (staI (staI (staI (staI (staI (staI (staI sta0)))))))))))))))))) sth0 (fun _ _ h => h.size) _ (Fr.refl _ _) trivial ?_ ?_
      · refine ⟨?_, ?_, ?_, ?_, ?_, ?_, ?_, ?_, ?_, ?_, ?_, ?_, ?_, ?_, ?_, ?_, ?_, ?_, trivial⟩
        · intro σ w' hR hd
          simp only [fill, Nat.reduceAdd, if_true, Bool.false_eq_true, if_false]
          clear hd
          have d0 : w'.cell? ⟨c1, 0, none⟩ = some (.pointer (some ⟨P.pp, 0, none⟩)) := (HC1.out.fr hR (by simp)).cell (i := 0) rfl
          go_wp2
          exact ⟨Fr.refl _ _, rfl⟩
        · intro σ w' hR hd
          simp only [fill, Nat.reduceAdd, if_true, Bool.false_eq_true, if_false]
          obtain h5 : σ 5 = _ := hd 0 (by decide)
          rw [h5]
          clear h5
          clear hd
          go_wp2
          exact ⟨Fr.refl _ _, rfl⟩
        · intro σ w' hR hd
          simp only [fill, Nat.reduceAdd, if_true, Bool.false_eq_true, if_false]
          obtain h6 : σ 6 = _ := hd 1 (by decide)
          rw [h6]
          clear h6
          clear hd
          go_wp2
          exact ⟨Fr.refl _ _, rfl⟩
        · intro σ w' hR hd
          simp only [fill, Nat.reduceAdd, if_true, Bool.false_eq_true, if_false]
          obtain h7 : σ 7 = _ := hd 2 (by decide)
          rw [h7]
          clear h7
          clear hd
          have d0 : w'.cell? ⟨P.pp, 0, none⟩ = some (.pointer (some ⟨P.pm, 0, none⟩)) := (HPB.out.fr hR (by simp)).cell (i := 0) rfl
          go_wp2
          exact ⟨Fr.refl _ _, rfl⟩
        · intro σ w' hR hd
          simp only [fill, Nat.reduceAdd, if_true, Bool.false_eq_true, if_false]
          clear hd
          have d0 : w'.cell? ⟨bq, 0, none⟩ = some (.string q.name) := (HBX.out.fr hR (by simp)).cell (i := 0) rfl
          have d1 : w'.cell? ⟨bq, 1, none⟩ = some (.int .u16 q.ty) := (HBX.out.fr hR (by simp)).cell (i := 1) rfl
          have d2 : w'.cell? ⟨bq, 2, none⟩ = some (.int .u16 q.cl) := (HBX.out.fr hR (by simp)).cell (i := 2) rfl
          go_wp2
          exact ⟨Fr.refl _ _, rfl⟩
        · intro σ w' hR hd
          simp only [fill, Nat.reduceAdd, if_true, Bool.false_eq_true, if_false]
          obtain h8 : σ 8 = _ := hd 3 (by decide)
          obtain h9 : σ 9 = _ := hd 4 (by decide)
          rw [h8, h9]
          clear h8 h9
          clear hd
          have hm4 := HMM.out.fr hR (by simp) (by simp)
          go_wp2_with fail
          refine (has_calls hm4 q).mono ?_
          rintro r w4 ⟨rfl, hf0⟩
          have hf4 := Hd.mk hf0
          clear hf0
          rw [HIS.out]
          go_wp2
          exact ⟨hf4.out, rfl⟩
        · intro σ w' hR hd
          simp only [fill, Nat.reduceAdd, if_true, Bool.false_eq_true, if_false]
          obtain h10 : σ 10 = _ := hd 5 (by decide)
          rw [h10]
          clear h10
          clear hd
          go_wp2
          exact ⟨Fr.refl _ _, rfl⟩
        · intro σ w' hR hd
          simp only [fill, Nat.reduceAdd, if_true, Bool.false_eq_true, if_false]
          obtain h11 : σ 11 = _ := hd 6 (by decide)
          rw [h11]
          clear h11
          clear hd
          have d0 : w'.cell? ⟨c1, 0, none⟩ = some (.pointer (some ⟨P.pp, 0, none⟩)) := (HC1.out.fr hR (by simp)).cell (i := 0) rfl
          go_wp2
          exact ⟨Fr.refl _ _, rfl⟩
        · intro σ w' hR hd
          simp only [fill, Nat.reduceAdd, if_true, Bool.false_eq_true, if_false]
          obtain h11 : σ 11 = _ := hd 6 (by decide)
          obtain h12 : σ 12 = _ := hd 7 (by decide)
          rw [h11, h12]
          clear h11 h12
          clear hd
          go_wp2
          exact ⟨Fr.refl _ _, rfl⟩
        · intro σ w' hR hd
          simp only [fill, Nat.reduceAdd, if_true, Bool.false_eq_true, if_false]
          obtain h11 : σ 11 = _ := hd 6 (by decide)
          obtain h13 : σ 13 = _ := hd 8 (by decide)
          rw [h11, h13]
          clear h11 h13
          clear hd
          go_wp2
          exact ⟨Fr.refl _ _, rfl⟩
        · intro σ w' hR hd
          simp only [fill, Nat.reduceAdd, if_true, Bool.false_eq_true, if_false]
          obtain h11 : σ 11 = _ := hd 6 (by decide)
          obtain h14 : σ 14 = _ := hd 9 (by decide)
          rw [h11, h14]
          clear h11 h14
          clear hd
          have d0 : w'.cell? ⟨P.pp, 1, none⟩ = some (.map (some P.be)) := (HPB.out.fr hR (by simp)).cell (i := 1) rfl
          go_wp2
          exact ⟨Fr.refl _ _, rfl⟩
        · intro σ w' hR hd
          simp only [fill, Nat.reduceAdd, if_true, Bool.false_eq_true, if_false]
          obtain h11 : σ 11 = _ := hd 6 (by decide)
          rw [h11]
          clear h11
          clear hd
          have d0 : w'.cell? ⟨bq, 0, none⟩ = some (.string q.name) := (HBX.out.fr hR (by simp)).cell (i := 0) rfl
          have d1 : w'.cell? ⟨bq, 1, none⟩ = some (.int .u16 q.ty) := (HBX.out.fr hR (by simp)).cell (i := 1) rfl
          have d2 : w'.cell? ⟨bq, 2, none⟩ = some (.int .u16 q.cl) := (HBX.out.fr hR (by simp)).cell (i := 2) rfl
          go_wp2
          exact ⟨Fr.refl _ _, rfl⟩
        · intro σ w' hR hd
          simp only [fill, Nat.reduceAdd, if_true, Bool.false_eq_true, if_false]
          obtain h11 : σ 11 = _ := hd 6 (by decide)
          obtain h15 : σ 15 = _ := hd 10 (by decide)
          obtain h16 : σ 16 = _ := hd 11 (by decide)
          rw [h11, h15, h16]
          clear h11 h15 h16
          clear hd
          have hm2 := map_fr HME.out hR (by simp)
          have hrun := hm2.look kq Try.underlying55 (zeroU w') (key_q q)
          rw [HXE.out] at hrun
          unfold Qn.v at hrun
          go_wp2
          exact ⟨Fr.refl _ _, rfl⟩
        · intro σ w' hR hd
          simp only [fill, Nat.reduceAdd, if_true, Bool.false_eq_true, if_false]
          obtain h11 : σ 11 = _ := hd 6 (by decide)
          rw [h11]
          clear h11
          clear hd
          have d0 : w'.cell? ⟨c2, 0, none⟩ = some (.int .u64 now) := (HC2.out.fr hR (by simp)).cell (i := 0) rfl
          go_wp2
          exact ⟨Fr.refl _ _, rfl⟩
        · intro σ w' hR hd
          simp only [fill, Nat.reduceAdd, if_true, Bool.false_eq_true, if_false]
          obtain h11 : σ 11 = _ := hd 6 (by decide)
          obtain h17 : σ 17 = _ := hd 12 (by decide)
          obtain h18 : σ 18 = _ := hd 13 (by decide)
          rw [h11, h17, h18]
          clear h11 h17 h18
          clear hd
          go_wp2_with fail
          refine (live_calls _ _ _).mono ?_
          rintro r w4 ⟨rfl, rfl⟩
          rw [HLV.out]
          go_wp2
          exact ⟨Fr.refl _ _, rfl⟩
        · intro σ w' hR hd
          simp only [fill, Nat.reduceAdd, if_true, Bool.false_eq_true, if_false]
          obtain h11 : σ 11 = _ := hd 6 (by decide)
          obtain h19 : σ 19 = _ := hd 14 (by decide)
          rw [h11, h19]
          clear h11 h19
          clear hd
          go_wp2
          exact ⟨Fr.refl _ _, rfl⟩
        · intro σ w' hR hd
          simp only [fill, Nat.reduceAdd, if_true, Bool.false_eq_true, if_false]
          obtain h11 : σ 11 = _ := hd 6 (by decide)
          obtain h20 : σ 20 = _ := hd 15 (by decide)
          rw [h11, h20]
          clear h11 h20
          clear hd
          go_wp2
          exact ⟨Fr.refl _ _, rfl⟩
        · intro σ w' hR hd
          simp only [fill, Nat.reduceAdd, if_true, Bool.false_eq_true, if_false]
          obtain h21 : σ 21 = _ := hd 16 (by decide)
          rw [h21]
          clear h21
          clear hd
          go_wp2
          exact ⟨Fr.refl _ _, rfl⟩
      · intro σ w3 hR hG hH
        obtain h4 : σ 4 = _ := hG 17 (by decide)
        simp only [fill, Nat.reduceAdd, if_true, Bool.false_eq_true, if_false, h4]
        clear h4
        clear hG
        go_wp2
        go_ret
        exact ⟨by rw [HGO.out]; rfl, HF1.out.trans hR⟩
set_option maxRecDepth 100000 in
set_option maxHeartbeats 8000000 in
theorem clo32_calls {w : World} {P : Pt} {s : Ps} (h : PtAt w P s) {c1 c2 : Nat} {now : Int} (h1 : Blk w c1 52 [.pointer (some ⟨P.pp, 0, none⟩)]) (h2 : Blk w c2 30 [.int .u64 now]) (q : Qn) : Calls Try.prog 32 #[q.v, .pointer (some ⟨c1, 0, none⟩), .pointer (some ⟨c2, 0, none⟩)] w fun r w' => r = .returned (.bool (goB s now q)) ∧ Fr [] w w' := by
  have H := Hd.mk h
  have H10 := Hd.mk h1
  have H20 := Hd.mk h2
  obtain ⟨x, hx⟩ : ∃ x, endE s.E q = x := ⟨_, rfl⟩
  have HXE : Hd (((findL s.E q).map vU).getD (.int .u64 0) = .int .u64 x) := Hd.mk (by rw [← hx]; exact end_v _ _)
  unfold Qn.v
  cases his : (findE s.L q).isSome with
  | false =>
    have HGO : Hd (goB s now q = false) := Hd.mk (by unfold goB; rw [his]; rfl)
    have HIS := Hd.mk his
    clear h h1 h2 hx his
    go_enter Try.func32, Try.ntmps32
    go_wp2_with fail
    refine wp_name ?_; intro w1 hw1
    have hf1 := alloc_of hw1
    have hb1 := blk_of (T := 28) (c := [.string q.name, .int .u16 q.ty, .int .u16 q.cl]) hw1
    clear hw1
    obtain ⟨bq, hbq⟩ : ∃ p, w.heap.size = p := ⟨_, rfl⟩
    rw [hbq] at hb1 ⊢
    have HF1 := Hd.mk hf1.drew
    have H1 := H.out.fr0 hf1
    have HPB : Hd (Blk w1.drew P.pp 57 [.pointer (some ⟨P.pm, 0, none⟩), .map (some P.be)]) := Hd.mk H1.blk.drew
    have HBX : Hd (Blk w1.drew bq 28 [.string q.name, .int .u16 q.ty, .int .u16 q.cl]) := Hd.mk hb1.drew
    have HC1 : Hd (Blk w1.drew c1 52 [.pointer (some ⟨P.pp, 0, none⟩)]) := Hd.mk (H10.out.fr hf1 (by simp)).drew
    have HC2 : Hd (Blk w1.drew c2 30 [.int .u64 now]) := Hd.mk (H20.out.fr hf1 (by simp)).drew
    have HMM : Hd (MAt w1.drew P.pm P.bm P.room s.L) := Hd.mk (H1.m.fr ((Fr.refl [] w1).drew) (by simp) (by simp))
    have HME : Hd (mapIs Qn.lit vU Try.prog 28 w1.drew P.be s.E) := Hd.mk (mapIs_block H1.e rfl)
    clear hf1 hb1 hbq H1
    refine wp_region_gs { R := Fr [], R1 := Fr [], gs := [Is (.pointer (some ⟨P.pp, 0, none⟩)), Is (.pointer (some ⟨P.pp, 0, none⟩)), Is (.pointer (some ⟨P.pp, 0, none⟩)), Is (.pointer (some ⟨P.pm, 0, none⟩)), Is (.agg #[.string q.name, .int .u16 q.ty, .int .u16 q.cl]), Is (.bool false), Is (.bool false), No, No, No, No, No, No, No, No, No, Is (.bool false), Is (.bool false)], ds := [some 5, some 6, some 7, some 8, some 9, some 10, some 11, some 12, some 13, some 14, some 15, some 16, some 17, some 18, some 19, some 20, some 21, some 4], fl := [false, false, false, false, false, false, false, false, false, false, false, false, false, false, false, false, false, false], hs := [], hd := [] } [false, false, false, false, true, true, true, true, true, true, true, true, true, true, true, true, true, true, true, true, true, true] (by kernel_rfl) _ (by kernel_rfl) (by kernel_rfl) (by kernel_rfl) (by kernel_rfl) rfl [] (fun _ _ _ h1 h2 => h1.trans h2) (fun _ _ h => h) (staI (staI (staI (staI (staI (staI (staI (staN (staN (staN (staN (staN (staN (staN (staN (staN (staI (staI sta0)))))))))))))))))) sth0 (fun _ _ h => h.size) _ (Fr.refl _ _) trivial ?_ ?_
    · refine ⟨?_, ?_, ?_, ?_, ?_, ?_, ?_, ?_, ?_, ?_, ?_, ?_, ?_, ?_, ?_, ?_, ?_, ?_, trivial⟩
      · intro σ w' hR hd
        simp only [fill, Nat.reduceAdd, if_true, Bool.false_eq_true, if_false]
        clear hd
        have d0 : w'.cell? ⟨c1, 0, none⟩ = some (.pointer (some ⟨P.pp, 0, none⟩)) := (HC1.out.fr hR (by simp)).cell (i := 0) rfl
        go_wp2
        exact ⟨Fr.refl _ _, rfl⟩
      · intro σ w' hR hd
        simp only [fill, Nat.reduceAdd, if_true, Bool.false_eq_true, if_false]
        obtain h5 : σ 5 = _ := hd 0 (by decide)
        rw [h5]
        clear h5
        clear hd
        go_wp2
        exact ⟨Fr.refl _ _, rfl⟩
      · intro σ w' hR hd
        simp only [fill, Nat.reduceAdd, if_true, Bool.false_eq_true, if_false]
        obtain h6 : σ 6 = _ := hd 1 (by decide)
        rw [h6]
        clear h6
        clear hd
        go_wp2
        exact ⟨Fr.refl _ _, rfl⟩
      · intro σ w' hR hd
        simp only [fill, Nat.reduceAdd, if_true, Bool.false_eq_true, if_false]
        obtain h7 : σ 7 = _ := hd 2 (by decide)
        rw [h7]
        clear h7
        clear hd
        have d0 : w'.cell? ⟨P.pp, 0, none⟩ = some (.pointer (some ⟨P.pm, 0, none⟩)) := (HPB.out.fr hR (by simp)).cell (i := 0) rfl
        go_wp2
        exact ⟨Fr.refl _ _, rfl⟩
      · intro σ w' hR hd
        simp only [fill, Nat.reduceAdd, if_true, Bool.false_eq_true, if_false]
        clear hd
        have d0 : w'.cell? ⟨bq, 0, none⟩ = some (.string q.name) := (HBX.out.fr hR (by simp)).cell (i := 0) rfl
        have d1 : w'.cell? ⟨bq, 1, none⟩ = some (.int .u16 q.ty) := (HBX.out.fr hR (by simp)).cell (i := 1) rfl
        have d2 : w'.cell? ⟨bq, 2, none⟩ = some (.int .u16 q.cl) := (HBX.out.fr hR (by simp)).cell (i := 2) rfl
        go_wp2
        exact ⟨Fr.refl _ _, rfl⟩
      · intro σ w' hR hd
        simp only [fill, Nat.reduceAdd, if_true, Bool.false_eq_true, if_false]
        obtain h8 : σ 8 = _ := hd 3 (by decide)
        obtain h9 : σ 9 = _ := hd 4 (by decide)
        rw [h8, h9]
        clear h8 h9
        clear hd
        have hm4 := HMM.out.fr hR (by simp) (by simp)
        go_wp2_with fail
        refine (has_calls hm4 q).mono ?_
        rintro r w4 ⟨rfl, hf0⟩
        have hf4 := Hd.mk hf0
        clear hf0
        rw [HIS.out]
        go_wp2
        exact ⟨hf4.out, rfl⟩
      · intro σ w' hR hd
        simp only [fill, Nat.reduceAdd, if_true, Bool.false_eq_true, if_false]
        obtain h10 : σ 10 = _ := hd 5 (by decide)
        rw [h10]
        clear h10
        clear hd
        go_wp2
        exact ⟨Fr.refl _ _, rfl⟩
      · intro σ w' hR hd
        simp only [fill, Nat.reduceAdd, if_true, Bool.false_eq_true, if_false]
        obtain h11 : σ 11 = _ := hd 6 (by decide)
        rw [h11]
        clear h11
        clear hd
        go_wp2
        exact ⟨Fr.refl _ _, trivial⟩
      · intro σ w' hR hd
        simp only [fill, Nat.reduceAdd, if_true, Bool.false_eq_true, if_false]
        obtain h11 : σ 11 = _ := hd 6 (by decide)
        rw [h11]
        clear h11
        clear hd
        go_wp2
        exact ⟨Fr.refl _ _, trivial⟩
      · intro σ w' hR hd
        simp only [fill, Nat.reduceAdd, if_true, Bool.false_eq_true, if_false]
        obtain h11 : σ 11 = _ := hd 6 (by decide)
        rw [h11]
        clear h11
        clear hd
        go_wp2
        exact ⟨Fr.refl _ _, trivial⟩
      · intro σ w' hR hd
        simp only [fill, Nat.reduceAdd, if_true, Bool.false_eq_true, if_false]
        obtain h11 : σ 11 = _ := hd 6 (by decide)
        rw [h11]
        clear h11
        clear hd
        go_wp2
        exact ⟨Fr.refl _ _, trivial⟩
      · intro σ w' hR hd
        simp only [fill, Nat.reduceAdd, if_true, Bool.false_eq_true, if_false]
        obtain h11 : σ 11 = _ := hd 6 (by decide)
        rw [h11]
        clear h11
        clear hd
        go_wp2
        exact ⟨Fr.refl _ _, trivial⟩
      · intro σ w' hR hd
        simp only [fill, Nat.reduceAdd, if_true, Bool.false_eq_true, if_false]
        obtain h11 : σ 11 = _ := hd 6 (by decide)
        rw [h11]
        clear h11
        clear hd
        go_wp2
        exact ⟨Fr.refl _ _, trivial⟩
      · intro σ w' hR hd
        simp only [fill, Nat.reduceAdd, if_true, Bool.false_eq_true, if_false]
        obtain h11 : σ 11 = _ := hd 6 (by decide)
        rw [h11]
        clear h11
        clear hd
        go_wp2
        exact ⟨Fr.refl _ _, trivial⟩
      · intro σ w' hR hd
        simp only [fill, Nat.reduceAdd, if_true, Bool.false_eq_true, if_false]
        obtain h11 : σ 11 = _ := hd 6 (by decide)
        rw [h11]
        clear h11
        clear hd
        go_wp2
        exact ⟨Fr.refl _ _, trivial⟩
      · intro σ w' hR hd
        simp only [fill, Nat.reduceAdd, if_true, Bool.false_eq_true, if_false]
        obtain h11 : σ 11 = _ := hd 6 (by decide)
        rw [h11]
        clear h11
        clear hd
        go_wp2
        exact ⟨Fr.refl _ _, trivial⟩
      · intro σ w' hR hd
        simp only [fill, Nat.reduceAdd, if_true, Bool.false_eq_true, if_false]
        obtain h11 : σ 11 = _ := hd 6 (by decide)
        rw [h11]
        clear h11
        clear hd
        go_wp2
        exact ⟨Fr.refl _ _, rfl⟩
      · intro σ w' hR hd
        simp only [fill, Nat.reduceAdd, if_true, Bool.false_eq_true, if_false]
        obtain h21 : σ 21 = _ := hd 16 (by decide)
        rw [h21]
        clear h21
        clear hd
        go_wp2
        exact ⟨Fr.refl _ _, rfl⟩
    · intro σ w3 hR hG hH
      obtain h4 : σ 4 = _ := hG 17 (by decide)
      simp only [fill, Nat.reduceAdd, if_true, Bool.false_eq_true, if_false, h4]
      clear h4
      clear hG
      go_wp2
      go_ret
      exact ⟨by rw [HGO.out]; rfl, HF1.out.trans hR⟩
  | true =>
    cases hlv : liveB x now with
    | true =>
      have HGO : Hd (goB s now q = false) := Hd.mk (by unfold goB; rw [his, hx, hlv]; rfl)
      have HIS := Hd.mk his
      have HLV := Hd.mk hlv
      clear h h1 h2 hx his hlv
      go_enter Try.func32, Try.ntmps32
      go_wp2_with fail
      refine wp_name ?_; intro w1 hw1
      have hf1 := alloc_of hw1
      have hb1 := blk_of (T := 28) (c := [.string q.name, .int .u16 q.ty, .int .u16 q.cl]) hw1
      clear hw1
      obtain ⟨bq, hbq⟩ : ∃ p, w.heap.size = p := ⟨_, rfl⟩
      rw [hbq] at hb1 ⊢
      have HF1 := Hd.mk hf1.drew
      have H1 := H.out.fr0 hf1
      have HPB : Hd (Blk w1.drew P.pp 57 [.pointer (some ⟨P.pm, 0, none⟩), .map (some P.be)]) := Hd.mk H1.blk.drew
      have HBX : Hd (Blk w1.drew bq 28 [.string q.name, .int .u16 q.ty, .int .u16 q.cl]) := Hd.mk hb1.drew
      have HC1 : Hd (Blk w1.drew c1 52 [.pointer (some ⟨P.pp, 0, none⟩)]) := Hd.mk (H10.out.fr hf1 (by simp)).drew
      have HC2 : Hd (Blk w1.drew c2 30 [.int .u64 now]) := Hd.mk (H20.out.fr hf1 (by simp)).drew
      have HMM : Hd (MAt w1.drew P.pm P.bm P.room s.L) := Hd.mk (H1.m.fr ((Fr.refl [] w1).drew) (by simp) (by simp))
      have HME : Hd (mapIs Qn.lit vU Try.prog 28 w1.drew P.be s.E) := Hd.mk (mapIs_block H1.e rfl)
      clear hf1 hb1 hbq H1
      refine wp_region_gs { R := Fr [], R1 := Fr [], gs := [Is (.pointer (some ⟨P.pp, 0, none⟩)), Is (.pointer (some ⟨P.pp, 0, none⟩)), Is (.pointer (some ⟨P.pp, 0, none⟩)), Is (.pointer (some ⟨P.pm, 0, none⟩)), Is (.agg #[.string q.name, .int .u16 q.ty, .int .u16 q.cl]), Is (.bool true), Is (.bool true), Is (.pointer (some ⟨P.pp, 0, none⟩)), Is (.pointer (some ⟨P.pp, 0, none⟩)), Is (.pointer (some ⟨P.pp, 1, none⟩)), Is (.map (some P.be)), Is (.agg #[.string q.name, .int .u16 q.ty, .int .u16 q.cl]), Is (.int .u64 x), Is (.int .u64 now), Is (.bool true), Is (.bool false), Is (.bool false), Is (.bool false)], ds := [some 5, some 6, some 7, some 8, some 9, some 10, some 11, some 12, some 13, some 14, some 15, some 16, some 17, some 18, some 19, some 20, some 21, some 4], fl := [false, false, false, false, false, false, false, false, false, false, false, false, false, false, false, false, false, false], hs := [], hd := [] } [false, false, false, false, true, true, true, true, true, true, true, true, true, true, true, true, true, true, true, true, true, true] (by kernel_rfl) _ (by kernel_rfl) (by kernel_rfl) (by kernel_rfl) (by kernel_rfl) rfl [] (fun _ _ _ h1 h2 => h1.trans h2) (fun _ _ h => h) (staI (staI (staI (staI (staI (staI (staI (staI (staI (staI (staI (staI (staI (staI (staI (staI (staI (staI sta0)))))))))))))))))) sth0 (fun _ _ h => h.size) _ (Fr.refl _ _) trivial ?_ ?_
      · refine ⟨?_, ?_, ?_, ?_, ?_, ?_, ?_, ?_, ?_, ?_, ?_, ?_, ?_, ?_, ?_, ?_, ?_, ?_, trivial⟩
        · intro σ w' hR hd
          simp only [fill, Nat.reduceAdd, if_true, Bool.false_eq_true, if_false]
          clear hd
          have d0 : w'.cell? ⟨c1, 0, none⟩ = some (.pointer (some ⟨P.pp, 0, none⟩)) := (HC1.out.fr hR (by simp)).cell (i := 0) rfl
          go_wp2
          exact ⟨Fr.refl _ _, rfl⟩
        · intro σ w' hR hd
          simp only [fill, Nat.reduceAdd, if_true, Bool.false_eq_true, if_false]
          obtain h5 : σ 5 = _ := hd 0 (by decide)
          rw [h5]
          clear h5
          clear hd
          go_wp2
          exact ⟨Fr.refl _ _, rfl⟩
        · intro σ w' hR hd
          simp only [fill, Nat.reduceAdd, if_true, Bool.false_eq_true, if_false]
          obtain h6 : σ 6 = _ := hd 1 (by decide)
          rw [h6]
          clear h6
          clear hd
          go_wp2
          exact ⟨Fr.refl _ _, rfl⟩
        · intro σ w' hR hd
          simp only [fill, Nat.reduceAdd, if_true, Bool.false_eq_true, if_false]
          obtain h7 : σ 7 = _ := hd 2 (by decide)
          rw [h7]
          clear h7
          clear hd
          have d0 : w'.cell? ⟨P.pp, 0, none⟩ = some (.pointer (some ⟨P.pm, 0, none⟩)) := (HPB.out.fr hR (by simp)).cell (i := 0) rfl
          go_wp2
          exact ⟨Fr.refl _ _, rfl⟩
        · intro σ w' hR hd
          simp only [fill, Nat.reduceAdd, if_true, Bool.false_eq_true, if_false]
          clear hd
          have d0 : w'.cell? ⟨bq, 0, none⟩ = some (.string q.name) := (HBX.out.fr hR (by simp)).cell (i := 0) rfl
          have d1 : w'.cell? ⟨bq, 1, none⟩ = some (.int .u16 q.ty) := (HBX.out.fr hR (by simp)).cell (i := 1) rfl
          have d2 : w'.cell? ⟨bq, 2, none⟩ = some (.int .u16 q.cl) := (HBX.out.fr hR (by simp)).cell (i := 2) rfl
          go_wp2
          exact ⟨Fr.refl _ _, rfl⟩
        · intro σ w' hR hd
          simp only [fill, Nat.reduceAdd, if_true, Bool.false_eq_true, if_false]
          obtain h8 : σ 8 = _ := hd 3 (by decide)
          obtain h9 : σ 9 = _ := hd 4 (by decide)
          rw [h8, h9]
          clear h8 h9
          clear hd
          have hm4 := HMM.out.fr hR (by simp) (by simp)
          go_wp2_with fail
          refine (has_calls hm4 q).mono ?_
          rintro r w4 ⟨rfl, hf0⟩
          have hf4 := Hd.mk hf0
          clear hf0
          rw [HIS.out]
          go_wp2
          exact ⟨hf4.out, rfl⟩
        · intro σ w' hR hd
          simp only [fill, Nat.reduceAdd, if_true, Bool.false_eq_true, if_false]
          obtain h10 : σ 10 = _ := hd 5 (by decide)
          rw [h10]
          clear h10
          clear hd
          go_wp2
          exact ⟨Fr.refl _ _, rfl⟩
        · intro σ w' hR hd
          simp only [fill, Nat.reduceAdd, if_true, Bool.false_eq_true, if_false]
          obtain h11 : σ 11 = _ := hd 6 (by decide)
          rw [h11]
          clear h11
          clear hd
          have d0 : w'.cell? ⟨c1, 0, none⟩ = some (.pointer (some ⟨P.pp, 0, none⟩)) := (HC1.out.fr hR (by simp)).cell (i := 0) rfl
          go_wp2
          exact ⟨Fr.refl _ _, rfl⟩
        · intro σ w' hR hd
          simp only [fill, Nat.reduceAdd, if_true, Bool.false_eq_true, if_false]
          obtain h11 : σ 11 = _ := hd 6 (by decide)
          obtain h12 : σ 12 = _ := hd 7 (by decide)
          rw [h11, h12]
          clear h11 h12
          clear hd
          go_wp2
          exact ⟨Fr.refl _ _, rfl⟩
        · intro σ w' hR hd
          simp only [fill, Nat.reduceAdd, if_true, Bool.false_eq_true, if_false]
          obtain h11 : σ 11 = _ := hd 6 (by decide)
          obtain h13 : σ 13 = _ := hd 8 (by decide)
          rw [h11, h13]
          clear h11 h13
          clear hd
          go_wp2
          exact ⟨Fr.refl _ _, rfl⟩
        · intro σ w' hR hd
          simp only [fill, Nat.reduceAdd, if_true, Bool.false_eq_true, if_false]
          obtain h11 : σ 11 = _ := hd 6 (by decide)
          obtain h14 : σ 14 = _ := hd 9 (by decide)
          rw [h11, h14]
          clear h11 h14
          clear hd
          have d0 : w'.cell? ⟨P.pp, 1, none⟩ = some (.map (some P.be)) := (HPB.out.fr hR (by simp)).cell (i := 1) rfl
          go_wp2
          exact ⟨Fr.refl _ _, rfl⟩
        · intro σ w' hR hd
          simp only [fill, Nat.reduceAdd, if_true, Bool.false_eq_true, if_false]
          obtain h11 : σ 11 = _ := hd 6 (by decide)
          rw [h11]
          clear h11
          clear hd
          have d0 : w'.cell? ⟨bq, 0, none⟩ = some (.string q.name) := (HBX.out.fr hR (by simp)).cell (i := 0) rfl
          have d1 : w'.cell? ⟨bq, 1, none⟩ = some (.int .u16 q.ty) := (HBX.out.fr hR (by simp)).cell (i := 1) rfl
          have d2 : w'.cell? ⟨bq, 2, none⟩ = some (.int .u16 q.cl) := (HBX.out.fr hR (by simp)).cell (i := 2) rfl
          go_wp2
          exact ⟨Fr.refl _ _, rfl⟩
        · intro σ w' hR hd
          simp only [fill, Nat.reduceAdd, if_true, Bool.false_eq_true, if_false]
          obtain h11 : σ 11 = _ := hd 6 (by decide)
          obtain h15 : σ 15 = _ := hd 10 (by decide)
          obtain h16 : σ 16 = _ := hd 11 (by decide)
          rw [h11, h15, h16]
          clear h11 h15 h16
          clear hd
          have hm2 := map_fr HME.out hR (by simp)
          have hrun := hm2.look kq Try.underlying55 (zeroU w') (key_q q)
          rw [HXE.out] at hrun
          unfold Qn.v at hrun
          go_wp2
          exact ⟨Fr.refl _ _, rfl⟩
        · intro σ w' hR hd
          simp only [fill, Nat.reduceAdd, if_true, Bool.false_eq_true, if_false]
          obtain h11 : σ 11 = _ := hd 6 (by decide)
          rw [h11]
          clear h11
          clear hd
          have d0 : w'.cell? ⟨c2, 0, none⟩ = some (.int .u64 now) := (HC2.out.fr hR (by simp)).cell (i := 0) rfl
          go_wp2
          exact ⟨Fr.refl _ _, rfl⟩
        · intro σ w' hR hd
          simp only [fill, Nat.reduceAdd, if_true, Bool.false_eq_true, if_false]
          obtain h11 : σ 11 = _ := hd 6 (by decide)
          obtain h17 : σ 17 = _ := hd 12 (by decide)
          obtain h18 : σ 18 = _ := hd 13 (by decide)
          rw [h11, h17, h18]
          clear h11 h17 h18
          clear hd
          go_wp2_with fail
          refine (live_calls _ _ _).mono ?_
          rintro r w4 ⟨rfl, rfl⟩
          rw [HLV.out]
          go_wp2
          exact ⟨Fr.refl _ _, rfl⟩
        · intro σ w' hR hd
          simp only [fill, Nat.reduceAdd, if_true, Bool.false_eq_true, if_false]
          obtain h11 : σ 11 = _ := hd 6 (by decide)
          obtain h19 : σ 19 = _ := hd 14 (by decide)
          rw [h11, h19]
          clear h11 h19
          clear hd
          go_wp2
          exact ⟨Fr.refl _ _, rfl⟩
        · intro σ w' hR hd
          simp only [fill, Nat.reduceAdd, if_true, Bool.false_eq_true, if_false]
          obtain h11 : σ 11 = _ := hd 6 (by decide)
          obtain h20 : σ 20 = _ := hd 15 (by decide)
          rw [h11, h20]
          clear h11 h20
          clear hd
          go_wp2
          exact ⟨Fr.refl _ _, rfl⟩
        · intro σ w' hR hd
          simp only [fill, Nat.reduceAdd, if_true, Bool.false_eq_true, if_false]
          obtain h21 : σ 21 = _ := hd 16 (by decide)
          rw [h21]
          clear h21
          clear hd
          go_wp2
          exact ⟨Fr.refl _ _, rfl⟩
      · intro σ w3 hR hG hH
        obtain h4 : σ 4 = _ := hG 17 (by decide)
        simp only [fill, Nat.reduceAdd, if_true, Bool.false_eq_true, if_false, h4]
        clear h4
        clear hG
        go_wp2
        go_ret
        exact ⟨by rw [HGO.out]; rfl, HF1.out.trans hR⟩
    | false =>
      have HGO : Hd (goB s now q = true) := Hd.mk (by unfold goB; rw [his, hx, hlv]; rfl)
      have HIS := Hd.mk his
      have HLV := Hd.mk hlv
      clear h h1 h2 hx his hlv
      go_enter Try.func32, Try.ntmps32
      go_wp2_with fail
      refine wp_name ?_; intro w1 hw1
      have hf1 := alloc_of hw1
      have hb1 := blk_of (T := 28) (c := [.string q.name, .int .u16 q.ty, .int .u16 q.cl]) hw1
      clear hw1
      obtain ⟨bq, hbq⟩ : ∃ p, w.heap.size = p := ⟨_, rfl⟩
      rw [hbq] at hb1 ⊢
      have HF1 := Hd.mk hf1.drew
      have H1 := H.out.fr0 hf1
      have HPB : Hd (Blk w1.drew P.pp 57 [.pointer (some ⟨P.pm, 0, none⟩), .map (some P.be)]) := Hd.mk H1.blk.drew
      have HBX : Hd (Blk w1.drew bq 28 [.string q.name, .int .u16 q.ty, .int .u16 q.cl]) := Hd.mk hb1.drew
      have HC1 : Hd (Blk w1.drew c1 52 [.pointer (some ⟨P.pp, 0, none⟩)]) := Hd.mk (H10.out.fr hf1 (by simp)).drew
      have HC2 : Hd (Blk w1.drew c2 30 [.int .u64 now]) := Hd.mk (H20.out.fr hf1 (by simp)).drew
      have HMM : Hd (MAt w1.drew P.pm P.bm P.room s.L) := Hd.mk (H1.m.fr ((Fr.refl [] w1).drew) (by simp) (by simp))
      have HME : Hd (mapIs Qn.lit vU Try.prog 28 w1.drew P.be s.E) := Hd.mk (mapIs_block H1.e rfl)
      clear hf1 hb1 hbq H1
      refine wp_region_gs { R := Fr [], R1 := Fr [], gs := [Is (.pointer (some ⟨P.pp, 0, none⟩)), Is (.pointer (some ⟨P.pp, 0, none⟩)), Is (.pointer (some ⟨P.pp, 0, none⟩)), Is (.pointer (some ⟨P.pm, 0, none⟩)), Is (.agg #[.string q.name, .int .u16 q.ty, .int .u16 q.cl]), Is (.bool true), Is (.bool true), Is (.pointer (some ⟨P.pp, 0, none⟩)), Is (.pointer (some ⟨P.pp, 0, none⟩)), Is (.pointer (some ⟨P.pp, 1, none⟩)), Is (.map (some P.be)), Is (.agg #[.string q.name, .int .u16 q.ty, .int .u16 q.cl]), Is (.int .u64 x), Is (.int .u64 now), Is (.bool false), Is (.bool true), Is (.bool true), Is (.bool true)], ds := [some 5, some 6, some 7, some 8, some 9, some 10, some 11, some 12, some 13, some 14, some 15, some 16, some 17, some 18, some 19, some 20, some 21, some 4], fl := [false, false, false, false, false, false, false, false, false, false, false, false, false, false, false, false, false, false], hs := [], hd := [] } [false, false, false, false, true, true, true, true, true, true, true, true, true, true, true, true, true, true, true, true, true, true] (by kernel_rfl) _ (by kernel_rfl) (by kernel_rfl) (by kernel_rfl) (by kernel_rfl) rfl [] (fun _ _ _ h1 h2 => h1.trans h2) (fun _ _ h => h) (staI (staI (staI (staI (staI (staI (staI (staI (staI (staI (staI (staI (staI (staI (staI (staI (staI (staI sta0)))))))))))))))))) sth0 (fun _ _ h => h.size) _ (Fr.refl _ _) trivial ?_ ?_
      · refine ⟨?_, ?_, ?_, ?_, ?_, ?_, ?_, ?_, ?_, ?_, ?_, ?_, ?_, ?_, ?_, ?_, ?_, ?_, trivial⟩
        · intro σ w' hR hd
          simp only [fill, Nat.reduceAdd, if_true, Bool.false_eq_true, if_false]
          clear hd
          have d0 : w'.cell? ⟨c1, 0, none⟩ = some (.pointer (some ⟨P.pp, 0, none⟩)) := (HC1.out.fr hR (by simp)).cell (i := 0) rfl
          go_wp2
          exact ⟨Fr.refl _ _, rfl⟩
        · intro σ w' hR hd
          simp only [fill, Nat.reduceAdd, if_true, Bool.false_eq_true, if_false]
          obtain h5 : σ 5 = _ := hd 0 (by decide)
          rw [h5]
          clear h5
          clear hd
          go_wp2
          exact ⟨Fr.refl _ _, rfl⟩
        · intro σ w' hR hd
          simp only [fill, Nat.reduceAdd, if_true, Bool.false_eq_true, if_false]
          obtain h6 : σ 6 = _ := hd 1 (by decide)
          rw [h6]
          clear h6
          clear hd
          go_wp2
          exact ⟨Fr.refl _ _, rfl⟩
        · intro σ w' hR hd
          simp only [fill, Nat.reduceAdd, if_true, Bool.false_eq_true, if_false]
          obtain h7 : σ 7 = _ := hd 2 (by decide)
          rw [h7]
          clear h7
          clear hd
          have d0 : w'.cell? ⟨P.pp, 0, none⟩ = some (.pointer (some ⟨P.pm, 0, none⟩)) := (HPB.out.fr hR (by simp)).cell (i := 0) rfl
          go_wp2
          exact ⟨Fr.refl _ _, rfl⟩
        · intro σ w' hR hd
          simp only [fill, Nat.reduceAdd, if_true, Bool.false_eq_true, if_false]
          clear hd
          have d0 : w'.cell? ⟨bq, 0, none⟩ = some (.string q.name) := (HBX.out.fr hR (by simp)).cell (i := 0) rfl
          have d1 : w'.cell? ⟨bq, 1, none⟩ = some (.int .u16 q.ty) := (HBX.out.fr hR (by simp)).cell (i := 1) rfl
          have d2 : w'.cell? ⟨bq, 2, none⟩ = some (.int .u16 q.cl) := (HBX.out.fr hR (by simp)).cell (i := 2) rfl
          go_wp2
          exact ⟨Fr.refl _ _, rfl⟩
        · intro σ w' hR hd
          simp only [fill, Nat.reduceAdd, if_true, Bool.false_eq_true, if_false]
          obtain h8 : σ 8 = _ := hd 3 (by decide)
          obtain h9 : σ 9 = _ := hd 4 (by decide)
          rw [h8, h9]
          clear h8 h9
          clear hd
          have hm4 := HMM.out.fr hR (by simp) (by simp)
          go_wp2_with fail
          refine (has_calls hm4 q).mono ?_
          rintro r w4 ⟨rfl, hf0⟩
          have hf4 := Hd.mk hf0
          clear hf0
          rw [HIS.out]
          go_wp2
          exact ⟨hf4.out, rfl⟩
        · intro σ w' hR hd
          simp only [fill, Nat.reduceAdd, if_true, Bool.false_eq_true, if_false]
          obtain h10 : σ 10 = _ := hd 5 (by decide)
          rw [h10]
          clear h10
          clear hd
          go_wp2
          exact ⟨Fr.refl _ _, rfl⟩
        · intro σ w' hR hd
          simp only [fill, Nat.reduceAdd, if_true, Bool.false_eq_true, if_false]
          obtain h11 : σ 11 = _ := hd 6 (by decide)
          rw [h11]
          clear h11
          clear hd
          have d0 : w'.cell? ⟨c1, 0, none⟩ = some (.pointer (some ⟨P.pp, 0, none⟩)) := (HC1.out.fr hR (by simp)).cell (i := 0) rfl
          go_wp2
          exact ⟨Fr.refl _ _, rfl⟩
        · intro σ w' hR hd
          simp only [fill, Nat.reduceAdd, if_true, Bool.false_eq_true, if_false]
          obtain h11 : σ 11 = _ := hd 6 (by decide)
          obtain h12 : σ 12 = _ := hd 7 (by decide)
          rw [h11, h12]
          clear h11 h12
          clear hd
          go_wp2
          exact ⟨Fr.refl _ _, rfl⟩
        · intro σ w' hR hd
          simp only [fill, Nat.reduceAdd, if_true, Bool.false_eq_true, if_false]
          obtain h11 : σ 11 = _ := hd 6 (by decide)
          obtain h13 : σ 13 = _ := hd 8 (by decide)
          rw [h11, h13]
          clear h11 h13
          clear hd
          go_wp2
          exact ⟨Fr.refl _ _, rfl⟩
        · intro σ w' hR hd
          simp only [fill, Nat.reduceAdd, if_true, Bool.false_eq_true, if_false]
          obtain h11 : σ 11 = _ := hd 6 (by decide)
          obtain h14 : σ 14 = _ := hd 9 (by decide)
          rw [h11, h14]
          clear h11 h14
          clear hd
          have d0 : w'.cell? ⟨P.pp, 1, none⟩ = some (.map (some P.be)) := (HPB.out.fr hR (by simp)).cell (i := 1) rfl
          go_wp2
          exact ⟨Fr.refl _ _, rfl⟩
        · intro σ w' hR hd
          simp only [fill, Nat.reduceAdd, if_true, Bool.false_eq_true, if_false]
          obtain h11 : σ 11 = _ := hd 6 (by decide)
          rw [h11]
          clear h11
          clear hd
          have d0 : w'.cell? ⟨bq, 0, none⟩ = some (.string q.name) := (HBX.out.fr hR (by simp)).cell (i := 0) rfl
          have d1 : w'.cell? ⟨bq, 1, none⟩ = some (.int .u16 q.ty) := (HBX.out.fr hR (by simp)).cell (i := 1) rfl
          have d2 : w'.cell? ⟨bq, 2, none⟩ = some (.int .u16 q.cl) := (HBX.out.fr hR (by simp)).cell (i := 2) rfl
          go_wp2
          exact ⟨Fr.refl _ _, rfl⟩
        · intro σ w' hR hd
          simp only [fill, Nat.reduceAdd, if_true, Bool.false_eq_true, if_false]
          obtain h11 : σ 11 = _ := hd 6 (by decide)
          obtain h15 : σ 15 = _ := hd 10 (by decide)
          obtain h16 : σ 16 = _ := hd 11 (by decide)
          rw [h11, h15, h16]
          clear h11 h15 h16
          clear hd
          have hm2 := map_fr HME.out hR (by simp)
          have hrun := hm2.look kq Try.underlying55 (zeroU w') (key_q q)
          rw [HXE.out] at hrun
          unfold Qn.v at hrun
          go_wp2
          exact ⟨Fr.refl _ _, rfl⟩
        · intro σ w' hR hd
          simp only [fill, Nat.reduceAdd, if_true, Bool.false_eq_true, if_false]
          obtain h11 : σ 11 = _ := hd 6 (by decide)
          rw [h11]
          clear h11
          clear hd
          have d0 : w'.cell? ⟨c2, 0, none⟩ = some (.int .u64 now) := (HC2.out.fr hR (by simp)).cell (i := 0) rfl
          go_wp2
          exact ⟨Fr.refl _ _, rfl⟩
        · intro σ w' hR hd
          simp only [fill, Nat.reduceAdd, if_true, Bool.false_eq_true, if_false]
          obtain h11 : σ 11 = _ := hd 6 (by decide)
          obtain h17 : σ 17 = _ := hd 12 (by decide)
          obtain h18 : σ 18 = _ := hd 13 (by decide)
          rw [h11, h17, h18]
          clear h11 h17 h18
          clear hd
          go_wp2_with fail
          refine (live_calls _ _ _).mono ?_
          rintro r w4 ⟨rfl, rfl⟩
          rw [HLV.out]
          go_wp2
          exact ⟨Fr.refl _ _, rfl⟩
        · intro σ w' hR hd
          simp only [fill, Nat.reduceAdd, if_true, Bool.false_eq_true, if_false]
          obtain h11 : σ 11 = _ := hd 6 (by decide)
          obtain h19 : σ 19 = _ := hd 14 (by decide)
          rw [h11, h19]
          clear h11 h19
          clear hd
          go_wp2
          exact ⟨Fr.refl _ _, rfl⟩
        · intro σ w' hR hd
          simp only [fill, Nat.reduceAdd, if_true, Bool.false_eq_true, if_false]
          obtain h11 : σ 11 = _ := hd 6 (by decide)
          obtain h20 : σ 20 = _ := hd 15 (by decide)
          rw [h11, h20]
          clear h11 h20
          clear hd
          go_wp2
          exact ⟨Fr.refl _ _, rfl⟩
        · intro σ w' hR hd
          simp only [fill, Nat.reduceAdd, if_true, Bool.false_eq_true, if_false]
          obtain h21 : σ 21 = _ := hd 16 (by decide)
          rw [h21]
          clear h21
          clear hd
          go_wp2
          exact ⟨Fr.refl _ _, rfl⟩
      · intro σ w3 hR hG hH
        obtain h4 : σ 4 = _ := hG 17 (by decide)
        simp only [fill, Nat.reduceAdd, if_true, Bool.false_eq_true, if_false, h4]
        clear h4
        clear hG
        go_wp2
        go_ret
        exact ⟨by rw [HGO.out]; rfl, HF1.out.trans hR⟩

end Go.Proofs.Ytbmejolmbfmdiaa
