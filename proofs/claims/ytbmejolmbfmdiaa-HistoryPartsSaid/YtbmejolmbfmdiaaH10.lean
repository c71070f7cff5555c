import Derived.Test.YtbmejolmbfmdiaaH9
namespace Go.Proofs.Ytbmejolmbfmdiaa
open Go Go.RowKit Go.Lib Go.Proofs.MapL

def evC (x : Ev) : List Value := [.int .i64 x.kind, .string x.de.q.name, .int .u16 x.de.q.ty, .int .u16 x.de.q.cl, .slice x.de.ra x.de.rn x.de.rc, .int .i64 x.de.rcode, .int .i64 x.de.rank, .int .u64 x.de.expire, .int .u64 x.now, .int .i64 x.sh, .string x.told.q.name, .int .u16 x.told.q.ty, .int .u16 x.told.q.cl, .slice x.told.ra x.told.rn x.told.rc, .int .i64 x.told.rcode, .int .i64 x.told.rank, .int .u64 x.told.expire, .bool x.is, .int .i64 x.err, .slice x.ga x.gn x.gc]
theorem blk_load {P : Program} {w : World} {b T : Nat} {c : List Value} (h : Blk w b T c) {n : Nat} (hn : c.length = n) {v : Array Value} (hv : c.toArray = v) : (loadCellsFrom ⟨b, 0, none⟩ 0 n #[]).run P w = .ok v w := by
  rw [← hv]
  exact run_loadCellsFrom_list P w _ c n hn (fun j u hj => by
    have hadd : (⟨b, 0, none⟩ : Addr).add j = ⟨b, j, none⟩ := by unfold Addr.add; split <;> simp_all
    rw [hadd]; exact h.cell hj)
theorem wpList_load {P : Program} {w : World} {ops : Array Oper} {rest : List Oper} {o : Oper} {a : Act} {Q : Exit → Act → World → Prop} {ty b n : Nat} {x : Operand} {v : Array Value}
    (hg : o.guard = none) (hop : o.op = .load ty x) (ha : (isAgg ty).run P w = .ok true w) (hs : (sizeOf ty).run P w = .ok n w) (hl : (loadCellsFrom ⟨b, 0, none⟩ 0 n #[]).run P w = .ok v w)
    (hx : a.eval x = .pointer (some ⟨b, 0, none⟩)) (hK : wpList P ops Q rest (a.put o.dst (.agg v)) w) : wpList P ops Q (o :: rest) a w := by
  refine wpList_plain hg fun K hK' => ?_
  unfold Oper.wp
  have hr : (execOp a.eval o).run P w = .ok (.value (.agg v)) w := by
    simp [execOp, hop, hx, Instr.loadAt, Instr.sureAddr, loadVar, loadCells, ha, hs, hl, Result.andThen]
  rw [hr]
  exact hK' _ _ hK
def dropAll (s : Ps) (l : List Qn) : Ps := l.foldl dropS s
theorem dropAll_app (s : Ps) (l : List Qn) (q : Qn) : dropAll s (l ++ [q]) = dropS (dropAll s l) q := by unfold dropAll; rw [List.foldl_append]; rfl
def advOkB (ρ : En → List Rr) (s : Ps) (x : Ev) : Bool := bareB ρ x && decide (x.err = 0) && decide (x.G.length = dueN s.E x.now) && eachB (goB s x.now) x.G
def advS (ρ : En → List Rr) (s : Ps) (x : Ev) : Ps := if advOkB ρ s x then dropAll s x.G else s
theorem adv_no {ρ : En → List Rr} {s : Ps} {x : Ev} (h : advOkB ρ s x = false) : advOkB ρ s x = false ∧ advS ρ s x = s := ⟨h, by unfold advS; rw [h]; rfl⟩
theorem adv_yes {ρ : En → List Rr} {s : Ps} {x : Ev} (h : advOkB ρ s x = true) : advOkB ρ s x = true ∧ advS ρ s x = dropAll s x.G := ⟨h, by unfold advS; rw [h]; rfl⟩
set_option maxRecDepth 100000 in
set_option maxHeartbeats 8000000 in
theorem hadv_bare {w0 w : World} (h0 : Fr [] w0 w) {P : Pt} (hP : ∀ k ∈ P.all, w0.heap.size ≤ k) {s : Ps} (h : PtAt w P s) (hE : s.E.length < 1000000) {x : Ev} (hx : EvOK w0 x) (hba : bareB (rho w0) x = false) : Calls Try.prog 17 #[.pointer (some ⟨P.pp, 0, none⟩), x.v] w fun r w' => r = .returned (.bool (advOkB (rho w0) s x)) ∧ PtAt w' P (advS (rho w0) s x) ∧ Fr P.wr w w' := by
  have HGO := Hd.mk (adv_no (ρ := rho w0) (s := s) (x := x) (by unfold advOkB; rw [hba]; rfl))
  have HB0 := Hd.mk hba
  clear hba
  obtain ⟨ba, hba⟩ : ∃ b, bareB (rho w0) x = b := ⟨_, rfl⟩
  obtain ⟨eb, heb⟩ : ∃ b, eachB (goB s x.now) x.G = b := ⟨_, rfl⟩
  obtain ⟨ga, hga⟩ : ∃ a, x.ga = a := ⟨_, rfl⟩
  have HBA := Hd.mk hba
  have HEB := Hd.mk heb
  have HX := Hd.mk hx
  have HGN := Hd.mk hx.gone.n
  have HGA := Hd.mk hga
  have HG : Hd (SlIs Qn.c 3 w0 ga x.G.length x.G) := Hd.mk (by rw [← hga, ← HGN.out]; exact hx.gone)
  have hgl : (x.G.length : Int) ≤ 9223372036854775807 := by have := hx.gone.le; omega
  have HPW : Hd (∀ k ∈ P.wr, w0.heap.size ≤ k) := Hd.mk (fun k hk => hP k (by simp only [Pt.wr, Pt.all, List.mem_cons, List.not_mem_nil, or_false] at hk ⊢; rcases hk with h | h <;> simp [h]))
  have H := Hd.mk h
  have H0 := Hd.mk h0
  have HE := Hd.mk hE
  clear h hba heb hga hx h0 hE hP
  obtain ⟨cv, hcv⟩ : ∃ c, (evC x).toArray = c := ⟨_, rfl⟩
  have HCV := Hd.mk hcv
  have HXV : Hd (Value.agg cv = x.v) := Hd.mk (by rw [← hcv]; rfl)
  have HC19 : Hd ((evC x)[19]? = some (.slice ga x.G.length x.gc)) := Hd.mk (by rw [← HGN.out, ← HGA.out]; rfl)
  clear hcv
  unfold Ev.v
  go_enter Try.func17, Try.ntmps17
  go_upto_region 1 with (fail)
  refine wp_name ?_; intro wa hwa
  obtain ⟨hb2, hbx, hfa⟩ := blk2_of (T1 := 52) (T2 := 38) (c1 := [.pointer (some ⟨P.pp, 0, none⟩)]) (c2 := evC x) hwa
  clear hwa
  have hnb : w.heap.size ∉ P.wr ∧ w.heap.size + 1 ∉ P.wr := by
    have h1 := H.out.lt P.bm (by simp [Pt.all])
    have h2 := H.out.lt P.be (by simp [Pt.all])
    simp [Pt.wr]; omega
  have HNE := Hd.mk hnb.1
  obtain ⟨b2, hb2e⟩ : ∃ p, w.heap.size = p := ⟨_, rfl⟩
  rw [hb2e] at hb2 hbx HNE ⊢
  obtain ⟨bx, hbxe⟩ : ∃ p, b2 + 1 = p := ⟨_, rfl⟩
  rw [hbxe] at hbx ⊢
  have c8 : wa.cell? ⟨bx, 8, none⟩ = some (.int .u64 x.now) := hbx.cell (i := 8) rfl
  have HB2A := Hd.mk hb2
  have HBXA := Hd.mk hbx
  have HFA := Hd.mk hfa
  clear hb2e hbxe hb2 hbx hfa hnb
  go_upto_region 2 with (fail)
  refine wp_name ?_; intro w1 hw1
  have hf1 := alloc_of hw1
  have hb5 := blk_of (T := 30) (c := [.int .u64 x.now]) hw1
  clear hw1 c8
  obtain ⟨b5, hb5e⟩ : ∃ p, wa.heap.size = p := ⟨_, rfl⟩
  rw [hb5e] at hb5 ⊢
  have HF1 := Hd.mk (HFA.out.trans hf1).drew
  have HPT := Hd.mk (H.out.fr0 HF1.out)
  have HWR := Hd.mk (H0.out.trans HF1.out)
  have HB2 : Hd (Blk w1.drew b2 52 [.pointer (some ⟨P.pp, 0, none⟩)]) := Hd.mk (HB2A.out.fr hf1 (by simp)).drew
  have HBX : Hd (Blk w1.drew bx 38 (evC x)) := Hd.mk (HBXA.out.fr hf1 (by simp)).drew
  have HB5 : Hd (Blk w1.drew b5 30 [.int .u64 x.now]) := Hd.mk hb5.drew
  clear hf1 hb5 hb5e HB2A HBXA HFA
  obtain rfl : ba = false := HBA.out.symm.trans HB0.out
  go_wp2_with fail
  refine wp_region_gs { R := Fr [], R1 := Fr [], gs := [Is (.agg cv), Is (.bool false), Is (.bool false), No, No, No, Is (.bool false), Is (.bool false), No, No, No, No, No, No, No, Is (.bool false), Is (.bool false), No, No, No, No, Is (.bool false), Is (.bool false)], ds := [some 12, some 13, some 14, some 15, some 16, some 17, some 18, some 19, some 20, some 21, some 22, some 23, some 24, some 25, some 26, some 27, some 28, some 29, some 30, some 31, some 32, some 33, some 6], fl := [false, false, false, false, false, false, false, false, false, false, false, false, false, false, false, false, false, false, false, false, false, false, false], hs := [], hd := [] } [false, false, false, false, false, false, true, false, false, false, false, false, true, true, true, true, true, true, true, true, true, true, true, true, true, true, true, true, true, true, true, true, true, true, false, false, false, false, false, false, false, false, false, false, false, false, false] (by kernel_rfl) _ (by kernel_rfl) (by kernel_rfl) (by kernel_rfl) (by kernel_rfl) rfl [] (fun _ _ _ h1 h2 => h1.trans h2) (fun _ _ h => h) (staI (staI (staI (staN (staN (staN (staI (staI (staN (staN (staN (staN (staN (staN (staN (staI (staI (staN (staN (staN (staN (staI (staI sta0))))))))))))))))))))))) sth0 (fun _ _ h => h.size) _ (Fr.refl _ _) trivial ?_ ?_
  · refine ⟨?_, ?_, ?_, ?_, ?_, ?_, ?_, ?_, ?_, ?_, ?_, ?_, ?_, ?_, ?_, ?_, ?_, ?_, ?_, ?_, ?_, ?_, ?_, trivial⟩
    · intro σ w' hR hd
      simp only [fill, Nat.reduceAdd, if_true, Bool.false_eq_true, if_false]
      clear hd
      refine wpList_load rfl rfl (Try.isAgg38 _) (Try.sizeOf38 _) (blk_load (HBX.out.fr hR (by simp)) (n := 20) rfl HCV.out) rfl ?_
      go_wp2
      exact ⟨Fr.refl _ _, rfl⟩
    · intro σ w' hR hd
      simp only [fill, Nat.reduceAdd, if_true, Bool.false_eq_true, if_false]
      obtain h12 : σ 12 = _ := hd 0 (by decide)
      rw [h12]
      clear h12
      clear hd
      go_wp2_with fail
      rw [HXV.out]
      refine (bare_calls (HWR.out.trans hR) HX.out).mono ?_
      rintro r w4 ⟨rfl, hf0⟩
      have hf4 := Hd.mk hf0
      clear hf0
      rw [HBA.out]
      go_wp2
      exact ⟨hf4.out, rfl⟩
    · intro σ w' hR hd
      simp only [fill, Nat.reduceAdd, if_true, Bool.false_eq_true, if_false]
      obtain h13 : σ 13 = _ := hd 1 (by decide)
      rw [h13]
      clear h13
      clear hd
      go_wp2
      exact ⟨Fr.refl _ _, rfl⟩
    · intro σ w' hR hd
      simp only [fill, Nat.reduceAdd, if_true, Bool.false_eq_true, if_false]
      obtain h14 : σ 14 = _ := hd 2 (by decide)
      rw [h14]
      clear h14
      clear hd
      go_wp2
      exact ⟨Fr.refl _ _, trivial⟩
    · intro σ w' hR hd
      simp only [fill, Nat.reduceAdd, if_true, Bool.false_eq_true, if_false]
      obtain h14 : σ 14 = _ := hd 2 (by decide)
      rw [h14]
      clear h14
      clear hd
      go_wp2
      exact ⟨Fr.refl _ _, trivial⟩
    · intro σ w' hR hd
      simp only [fill, Nat.reduceAdd, if_true, Bool.false_eq_true, if_false]
      obtain h14 : σ 14 = _ := hd 2 (by decide)
      rw [h14]
      clear h14
      clear hd
      go_wp2
      exact ⟨Fr.refl _ _, trivial⟩
    · intro σ w' hR hd
      simp only [fill, Nat.reduceAdd, if_true, Bool.false_eq_true, if_false]
      obtain h14 : σ 14 = _ := hd 2 (by decide)
      rw [h14]
      clear h14
      clear hd
      go_wp2
      exact ⟨Fr.refl _ _, rfl⟩
    · intro σ w' hR hd
      simp only [fill, Nat.reduceAdd, if_true, Bool.false_eq_true, if_false]
      obtain h18 : σ 18 = _ := hd 6 (by decide)
      rw [h18]
      clear h18
      clear hd
      go_wp2
      exact ⟨Fr.refl _ _, rfl⟩
    · intro σ w' hR hd
      simp only [fill, Nat.reduceAdd, if_true, Bool.false_eq_true, if_false]
      obtain h19 : σ 19 = _ := hd 7 (by decide)
      rw [h19]
      clear h19
      clear hd
      go_wp2
      exact ⟨Fr.refl _ _, trivial⟩
    · intro σ w' hR hd
      simp only [fill, Nat.reduceAdd, if_true, Bool.false_eq_true, if_false]
      obtain h19 : σ 19 = _ := hd 7 (by decide)
      rw [h19]
      clear h19
      clear hd
      go_wp2
      exact ⟨Fr.refl _ _, trivial⟩
    · intro σ w' hR hd
      simp only [fill, Nat.reduceAdd, if_true, Bool.false_eq_true, if_false]
      obtain h19 : σ 19 = _ := hd 7 (by decide)
      rw [h19]
      clear h19
      clear hd
      go_wp2
      exact ⟨Fr.refl _ _, trivial⟩
    · intro σ w' hR hd
      simp only [fill, Nat.reduceAdd, if_true, Bool.false_eq_true, if_false]
      obtain h19 : σ 19 = _ := hd 7 (by decide)
      rw [h19]
      clear h19
      clear hd
      go_wp2
      exact ⟨Fr.refl _ _, trivial⟩
    · intro σ w' hR hd
      simp only [fill, Nat.reduceAdd, if_true, Bool.false_eq_true, if_false]
      obtain h19 : σ 19 = _ := hd 7 (by decide)
      rw [h19]
      clear h19
      clear hd
      go_wp2
      exact ⟨Fr.refl _ _, trivial⟩
    · intro σ w' hR hd
      simp only [fill, Nat.reduceAdd, if_true, Bool.false_eq_true, if_false]
      obtain h19 : σ 19 = _ := hd 7 (by decide)
      rw [h19]
      clear h19
      clear hd
      go_wp2
      exact ⟨Fr.refl _ _, trivial⟩
    · intro σ w' hR hd
      simp only [fill, Nat.reduceAdd, if_true, Bool.false_eq_true, if_false]
      obtain h19 : σ 19 = _ := hd 7 (by decide)
      rw [h19]
      clear h19
      clear hd
      go_wp2
      exact ⟨Fr.refl _ _, trivial⟩
    · intro σ w' hR hd
      simp only [fill, Nat.reduceAdd, if_true, Bool.false_eq_true, if_false]
      obtain h19 : σ 19 = _ := hd 7 (by decide)
      rw [h19]
      clear h19
      clear hd
      go_wp2
      exact ⟨Fr.refl _ _, rfl⟩
    · intro σ w' hR hd
      simp only [fill, Nat.reduceAdd, if_true, Bool.false_eq_true, if_false]
      obtain h27 : σ 27 = _ := hd 15 (by decide)
      rw [h27]
      clear h27
      clear hd
      go_wp2
      exact ⟨Fr.refl _ _, rfl⟩
    · intro σ w' hR hd
      simp only [fill, Nat.reduceAdd, if_true, Bool.false_eq_true, if_false]
      obtain h28 : σ 28 = _ := hd 16 (by decide)
      rw [h28]
      clear h28
      clear hd
      go_wp2
      exact ⟨Fr.refl _ _, trivial⟩
    · intro σ w' hR hd
      simp only [fill, Nat.reduceAdd, if_true, Bool.false_eq_true, if_false]
      obtain h28 : σ 28 = _ := hd 16 (by decide)
      rw [h28]
      clear h28
      clear hd
      go_wp2
      exact ⟨Fr.refl _ _, trivial⟩
    · intro σ w' hR hd
      simp only [fill, Nat.reduceAdd, if_true, Bool.false_eq_true, if_false]
      obtain h28 : σ 28 = _ := hd 16 (by decide)
      rw [h28]
      clear h28
      clear hd
      go_wp2
      exact ⟨Fr.refl _ _, trivial⟩
    · intro σ w' hR hd
      simp only [fill, Nat.reduceAdd, if_true, Bool.false_eq_true, if_false]
      obtain h28 : σ 28 = _ := hd 16 (by decide)
      rw [h28]
      clear h28
      clear hd
      go_wp2
      exact ⟨Fr.refl _ _, trivial⟩
    · intro σ w' hR hd
      simp only [fill, Nat.reduceAdd, if_true, Bool.false_eq_true, if_false]
      obtain h28 : σ 28 = _ := hd 16 (by decide)
      rw [h28]
      clear h28
      clear hd
      go_wp2
      exact ⟨Fr.refl _ _, rfl⟩
    · intro σ w' hR hd
      simp only [fill, Nat.reduceAdd, if_true, Bool.false_eq_true, if_false]
      obtain h33 : σ 33 = _ := hd 21 (by decide)
      rw [h33]
      clear h33
      clear hd
      go_wp2
      exact ⟨Fr.refl _ _, rfl⟩
  · intro σ w3 hR hG hH
    obtain h6 : σ 6 = _ := hG 22 (by decide)
    simp only [fill, Nat.reduceAdd, if_true, Bool.false_eq_true, if_false, h6]
    clear h6
    clear hG
    have HF5 := Hd.mk (HF1.out.trans hR)
    have HP5 := Hd.mk (HPT.out.fr0 hR)
    clear hR
    go_wp2
    go_ret
    exact ⟨by rw [HGO.out.1]; rfl, by rw [HGO.out.2]; exact HP5.out, HF5.out.mono (by simp)⟩
set_option maxRecDepth 100000 in
set_option maxHeartbeats 8000000 in
theorem hadv_err {w0 w : World} (h0 : Fr [] w0 w) {P : Pt} (hP : ∀ k ∈ P.all, w0.heap.size ≤ k) {s : Ps} (h : PtAt w P s) (hE : s.E.length < 1000000) {x : Ev} (hx : EvOK w0 x) (hba : bareB (rho w0) x = true) (he : ¬ x.err = 0) : Calls Try.prog 17 #[.pointer (some ⟨P.pp, 0, none⟩), x.v] w fun r w' => r = .returned (.bool (advOkB (rho w0) s x)) ∧ PtAt w' P (advS (rho w0) s x) ∧ Fr P.wr w w' := by
  have HER : Hd ((x.err == 0) = false) := Hd.mk (beq_eq_false_iff_ne.2 he)
  have HGO := Hd.mk (adv_no (ρ := rho w0) (s := s) (x := x) (by unfold advOkB; rw [decide_eq_false he]; simp))
  have HB0 := Hd.mk hba
  clear hba he
  obtain ⟨ba, hba⟩ : ∃ b, bareB (rho w0) x = b := ⟨_, rfl⟩
  obtain ⟨eb, heb⟩ : ∃ b, eachB (goB s x.now) x.G = b := ⟨_, rfl⟩
  obtain ⟨ga, hga⟩ : ∃ a, x.ga = a := ⟨_, rfl⟩
  have HBA := Hd.mk hba
  have HEB := Hd.mk heb
  have HX := Hd.mk hx
  have HGN := Hd.mk hx.gone.n
  have HGA := Hd.mk hga
  have HG : Hd (SlIs Qn.c 3 w0 ga x.G.length x.G) := Hd.mk (by rw [← hga, ← HGN.out]; exact hx.gone)
  have hgl : (x.G.length : Int) ≤ 9223372036854775807 := by have := hx.gone.le; omega
  have HPW : Hd (∀ k ∈ P.wr, w0.heap.size ≤ k) := Hd.mk (fun k hk => hP k (by simp only [Pt.wr, Pt.all, List.mem_cons, List.not_mem_nil, or_false] at hk ⊢; rcases hk with h | h <;> simp [h]))
  have H := Hd.mk h
  have H0 := Hd.mk h0
  have HE := Hd.mk hE
  clear h hba heb hga hx h0 hE hP
  obtain ⟨cv, hcv⟩ : ∃ c, (evC x).toArray = c := ⟨_, rfl⟩
  have HCV := Hd.mk hcv
  have HXV : Hd (Value.agg cv = x.v) := Hd.mk (by rw [← hcv]; rfl)
  have HC19 : Hd ((evC x)[19]? = some (.slice ga x.G.length x.gc)) := Hd.mk (by rw [← HGN.out, ← HGA.out]; rfl)
  clear hcv
  unfold Ev.v
  go_enter Try.func17, Try.ntmps17
  go_upto_region 1 with (fail)
  refine wp_name ?_; intro wa hwa
  obtain ⟨hb2, hbx, hfa⟩ := blk2_of (T1 := 52) (T2 := 38) (c1 := [.pointer (some ⟨P.pp, 0, none⟩)]) (c2 := evC x) hwa
  clear hwa
  have hnb : w.heap.size ∉ P.wr ∧ w.heap.size + 1 ∉ P.wr := by
    have h1 := H.out.lt P.bm (by simp [Pt.all])
    have h2 := H.out.lt P.be (by simp [Pt.all])
    simp [Pt.wr]; omega
  have HNE := Hd.mk hnb.1
  obtain ⟨b2, hb2e⟩ : ∃ p, w.heap.size = p := ⟨_, rfl⟩
  rw [hb2e] at hb2 hbx HNE ⊢
  obtain ⟨bx, hbxe⟩ : ∃ p, b2 + 1 = p := ⟨_, rfl⟩
  rw [hbxe] at hbx ⊢
  have c8 : wa.cell? ⟨bx, 8, none⟩ = some (.int .u64 x.now) := hbx.cell (i := 8) rfl
  have HB2A := Hd.mk hb2
  have HBXA := Hd.mk hbx
  have HFA := Hd.mk hfa
  clear hb2e hbxe hb2 hbx hfa hnb
  go_upto_region 2 with (fail)
  refine wp_name ?_; intro w1 hw1
  have hf1 := alloc_of hw1
  have hb5 := blk_of (T := 30) (c := [.int .u64 x.now]) hw1
  clear hw1 c8
  obtain ⟨b5, hb5e⟩ : ∃ p, wa.heap.size = p := ⟨_, rfl⟩
  rw [hb5e] at hb5 ⊢
  have HF1 := Hd.mk (HFA.out.trans hf1).drew
  have HPT := Hd.mk (H.out.fr0 HF1.out)
  have HWR := Hd.mk (H0.out.trans HF1.out)
  have HB2 : Hd (Blk w1.drew b2 52 [.pointer (some ⟨P.pp, 0, none⟩)]) := Hd.mk (HB2A.out.fr hf1 (by simp)).drew
  have HBX : Hd (Blk w1.drew bx 38 (evC x)) := Hd.mk (HBXA.out.fr hf1 (by simp)).drew
  have HB5 : Hd (Blk w1.drew b5 30 [.int .u64 x.now]) := Hd.mk hb5.drew
  clear hf1 hb5 hb5e HB2A HBXA HFA
  obtain rfl : ba = true := HBA.out.symm.trans HB0.out
  go_wp2_with fail
  refine wp_region_gs { R := Fr [], R1 := Fr [], gs := [Is (.agg cv), Is (.bool true), Is (.bool true), Is (.pointer (some ⟨bx, 18, none⟩)), Is (.int .i64 x.err), Is (.bool false), Is (.bool false), Is (.bool false), No, No, No, No, No, No, No, Is (.bool false), Is (.bool false), No, No, No, No, Is (.bool false), Is (.bool false)], ds := [some 12, some 13, some 14, some 15, some 16, some 17, some 18, some 19, some 20, some 21, some 22, some 23, some 24, some 25, some 26, some 27, some 28, some 29, some 30, some 31, some 32, some 33, some 6], fl := [false, false, false, false, false, false, false, false, false, false, false, false, false, false, false, false, false, false, false, false, false, false, false], hs := [], hd := [] } [false, false, false, false, false, false, true, false, false, false, false, false, true, true, true, true, true, true, true, true, true, true, true, true, true, true, true, true, true, true, true, true, true, true, false, false, false, false, false, false, false, false, false, false, false, false, false] (by kernel_rfl) _ (by kernel_rfl) (by kernel_rfl) (by kernel_rfl) (by kernel_rfl) rfl [] (fun _ _ _ h1 h2 => h1.trans h2) (fun _ _ h => h) (staI (staI (staI (staI (staI (staI (staI (staI (staN (staN (staN (staN (staN (staN (staN (staI (staI (staN (staN (staN (staN (staI (staI sta0))))))))))))))))))))))) sth0 (fun _ _ h => h.size) _ (Fr.refl _ _) trivial ?_ ?_
  · refine ⟨?_, ?_, ?_, ?_, ?_, ?_, ?_, ?_, ?_, ?_, ?_, ?_, ?_, ?_, ?_, ?_, ?_, ?_, ?_, ?_, ?_, ?_, ?_, trivial⟩
    · intro σ w' hR hd
      simp only [fill, Nat.reduceAdd, if_true, Bool.false_eq_true, if_false]
      clear hd
      refine wpList_load rfl rfl (Try.isAgg38 _) (Try.sizeOf38 _) (blk_load (HBX.out.fr hR (by simp)) (n := 20) rfl HCV.out) rfl ?_
      go_wp2
      exact ⟨Fr.refl _ _, rfl⟩
    · intro σ w' hR hd
      simp only [fill, Nat.reduceAdd, if_true, Bool.false_eq_true, if_false]
      obtain h12 : σ 12 = _ := hd 0 (by decide)
      rw [h12]
      clear h12
      clear hd
      go_wp2_with fail
      rw [HXV.out]
      refine (bare_calls (HWR.out.trans hR) HX.out).mono ?_
      rintro r w4 ⟨rfl, hf0⟩
      have hf4 := Hd.mk hf0
      clear hf0
      rw [HBA.out]
      go_wp2
      exact ⟨hf4.out, rfl⟩
    · intro σ w' hR hd
      simp only [fill, Nat.reduceAdd, if_true, Bool.false_eq_true, if_false]
      obtain h13 : σ 13 = _ := hd 1 (by decide)
      rw [h13]
      clear h13
      clear hd
      go_wp2
      exact ⟨Fr.refl _ _, rfl⟩
    · intro σ w' hR hd
      simp only [fill, Nat.reduceAdd, if_true, Bool.false_eq_true, if_false]
      obtain h14 : σ 14 = _ := hd 2 (by decide)
      rw [h14]
      clear h14
      clear hd
      go_wp2
      exact ⟨Fr.refl _ _, rfl⟩
    · intro σ w' hR hd
      simp only [fill, Nat.reduceAdd, if_true, Bool.false_eq_true, if_false]
      obtain h14 : σ 14 = _ := hd 2 (by decide)
      obtain h15 : σ 15 = _ := hd 3 (by decide)
      rw [h14, h15]
      clear h14 h15
      clear hd
      have d18 : w'.cell? ⟨bx, 18, none⟩ = some (.int .i64 x.err) := (HBX.out.fr hR (by simp)).cell (i := 18) rfl
      go_wp2
      exact ⟨Fr.refl _ _, rfl⟩
    · intro σ w' hR hd
      simp only [fill, Nat.reduceAdd, if_true, Bool.false_eq_true, if_false]
      obtain h14 : σ 14 = _ := hd 2 (by decide)
      obtain h16 : σ 16 = _ := hd 4 (by decide)
      rw [h14, h16]
      clear h14 h16
      clear hd
      go_wp2
      exact ⟨Fr.refl _ _, by show Value.bool (x.err == 0) = _; rw [HER.out]⟩
    · intro σ w' hR hd
      simp only [fill, Nat.reduceAdd, if_true, Bool.false_eq_true, if_false]
      obtain h14 : σ 14 = _ := hd 2 (by decide)
      obtain h17 : σ 17 = _ := hd 5 (by decide)
      rw [h14, h17]
      clear h14 h17
      clear hd
      go_wp2
      exact ⟨Fr.refl _ _, rfl⟩
    · intro σ w' hR hd
      simp only [fill, Nat.reduceAdd, if_true, Bool.false_eq_true, if_false]
      obtain h18 : σ 18 = _ := hd 6 (by decide)
      rw [h18]
      clear h18
      clear hd
      go_wp2
      exact ⟨Fr.refl _ _, rfl⟩
    · intro σ w' hR hd
      simp only [fill, Nat.reduceAdd, if_true, Bool.false_eq_true, if_false]
      obtain h19 : σ 19 = _ := hd 7 (by decide)
      rw [h19]
      clear h19
      clear hd
      go_wp2
      exact ⟨Fr.refl _ _, trivial⟩
    · intro σ w' hR hd
      simp only [fill, Nat.reduceAdd, if_true, Bool.false_eq_true, if_false]
      obtain h19 : σ 19 = _ := hd 7 (by decide)
      rw [h19]
      clear h19
      clear hd
      go_wp2
      exact ⟨Fr.refl _ _, trivial⟩
    · intro σ w' hR hd
      simp only [fill, Nat.reduceAdd, if_true, Bool.false_eq_true, if_false]
      obtain h19 : σ 19 = _ := hd 7 (by decide)
      rw [h19]
      clear h19
      clear hd
      go_wp2
      exact ⟨Fr.refl _ _, trivial⟩
    · intro σ w' hR hd
      simp only [fill, Nat.reduceAdd, if_true, Bool.false_eq_true, if_false]
      obtain h19 : σ 19 = _ := hd 7 (by decide)
      rw [h19]
      clear h19
      clear hd
      go_wp2
      exact ⟨Fr.refl _ _, trivial⟩
    · intro σ w' hR hd
      simp only [fill, Nat.reduceAdd, if_true, Bool.false_eq_true, if_false]
      obtain h19 : σ 19 = _ := hd 7 (by decide)
      rw [h19]
      clear h19
      clear hd
      go_wp2
      exact ⟨Fr.refl _ _, trivial⟩
    · intro σ w' hR hd
      simp only [fill, Nat.reduceAdd, if_true, Bool.false_eq_true, if_false]
      obtain h19 : σ 19 = _ := hd 7 (by decide)
      rw [h19]
      clear h19
      clear hd
      go_wp2
      exact ⟨Fr.refl _ _, trivial⟩
    · intro σ w' hR hd
      simp only [fill, Nat.reduceAdd, if_true, Bool.false_eq_true, if_false]
      obtain h19 : σ 19 = _ := hd 7 (by decide)
      rw [h19]
      clear h19
      clear hd
      go_wp2
      exact ⟨Fr.refl _ _, trivial⟩
    · intro σ w' hR hd
      simp only [fill, Nat.reduceAdd, if_true, Bool.false_eq_true, if_false]
      obtain h19 : σ 19 = _ := hd 7 (by decide)
      rw [h19]
      clear h19
      clear hd
      go_wp2
      exact ⟨Fr.refl _ _, rfl⟩
    · intro σ w' hR hd
      simp only [fill, Nat.reduceAdd, if_true, Bool.false_eq_true, if_false]
      obtain h27 : σ 27 = _ := hd 15 (by decide)
      rw [h27]
      clear h27
      clear hd
      go_wp2
      exact ⟨Fr.refl _ _, rfl⟩
    · intro σ w' hR hd
      simp only [fill, Nat.reduceAdd, if_true, Bool.false_eq_true, if_false]
      obtain h28 : σ 28 = _ := hd 16 (by decide)
      rw [h28]
      clear h28
      clear hd
      go_wp2
      exact ⟨Fr.refl _ _, trivial⟩
    · intro σ w' hR hd
      simp only [fill, Nat.reduceAdd, if_true, Bool.false_eq_true, if_false]
      obtain h28 : σ 28 = _ := hd 16 (by decide)
      rw [h28]
      clear h28
      clear hd
      go_wp2
      exact ⟨Fr.refl _ _, trivial⟩
    · intro σ w' hR hd
      simp only [fill, Nat.reduceAdd, if_true, Bool.false_eq_true, if_false]
      obtain h28 : σ 28 = _ := hd 16 (by decide)
      rw [h28]
      clear h28
      clear hd
      go_wp2
      exact ⟨Fr.refl _ _, trivial⟩
    · intro σ w' hR hd
      simp only [fill, Nat.reduceAdd, if_true, Bool.false_eq_true, if_false]
      obtain h28 : σ 28 = _ := hd 16 (by decide)
      rw [h28]
      clear h28
      clear hd
      go_wp2
      exact ⟨Fr.refl _ _, trivial⟩
    · intro σ w' hR hd
      simp only [fill, Nat.reduceAdd, if_true, Bool.false_eq_true, if_false]
      obtain h28 : σ 28 = _ := hd 16 (by decide)
      rw [h28]
      clear h28
      clear hd
      go_wp2
      exact ⟨Fr.refl _ _, rfl⟩
    · intro σ w' hR hd
      simp only [fill, Nat.reduceAdd, if_true, Bool.false_eq_true, if_false]
      obtain h33 : σ 33 = _ := hd 21 (by decide)
      rw [h33]
      clear h33
      clear hd
      go_wp2
      exact ⟨Fr.refl _ _, rfl⟩
  · intro σ w3 hR hG hH
    obtain h6 : σ 6 = _ := hG 22 (by decide)
    simp only [fill, Nat.reduceAdd, if_true, Bool.false_eq_true, if_false, h6]
    clear h6
    clear hG
    have HF5 := Hd.mk (HF1.out.trans hR)
    have HP5 := Hd.mk (HPT.out.fr0 hR)
    clear hR
    go_wp2
    go_ret
    exact ⟨by rw [HGO.out.1]; rfl, by rw [HGO.out.2]; exact HP5.out, HF5.out.mono (by simp)⟩
set_option maxRecDepth 100000 in
set_option maxHeartbeats 8000000 in
theorem hadv_len {w0 w : World} (h0 : Fr [] w0 w) {P : Pt} (hP : ∀ k ∈ P.all, w0.heap.size ≤ k) {s : Ps} (h : PtAt w P s) (hE : s.E.length < 1000000) {x : Ev} (hx : EvOK w0 x) (hba : bareB (rho w0) x = true) (he : x.err = 0) (hln : ((x.G.length : Int) == (dueN s.E x.now : Int)) = false) : Calls Try.prog 17 #[.pointer (some ⟨P.pp, 0, none⟩), x.v] w fun r w' => r = .returned (.bool (advOkB (rho w0) s x)) ∧ PtAt w' P (advS (rho w0) s x) ∧ Fr P.wr w w' := by
  have HER := Hd.mk he
  have HLN := Hd.mk hln
  have HGO := Hd.mk (adv_no (ρ := rho w0) (s := s) (x := x) (by unfold advOkB; rw [show decide (x.G.length = dueN s.E x.now) = false from decide_eq_false (fun e => by rw [e] at hln; simp at hln)]; simp))
  have HB0 := Hd.mk hba
  clear hba he hln
  obtain ⟨ba, hba⟩ : ∃ b, bareB (rho w0) x = b := ⟨_, rfl⟩
  obtain ⟨eb, heb⟩ : ∃ b, eachB (goB s x.now) x.G = b := ⟨_, rfl⟩
  obtain ⟨ga, hga⟩ : ∃ a, x.ga = a := ⟨_, rfl⟩
  have HBA := Hd.mk hba
  have HEB := Hd.mk heb
  have HX := Hd.mk hx
  have HGN := Hd.mk hx.gone.n
  have HGA := Hd.mk hga
  have HG : Hd (SlIs Qn.c 3 w0 ga x.G.length x.G) := Hd.mk (by rw [← hga, ← HGN.out]; exact hx.gone)
  have hgl : (x.G.length : Int) ≤ 9223372036854775807 := by have := hx.gone.le; omega
  have HPW : Hd (∀ k ∈ P.wr, w0.heap.size ≤ k) := Hd.mk (fun k hk => hP k (by simp only [Pt.wr, Pt.all, List.mem_cons, List.not_mem_nil, or_false] at hk ⊢; rcases hk with h | h <;> simp [h]))
  have H := Hd.mk h
  have H0 := Hd.mk h0
  have HE := Hd.mk hE
  clear h hba heb hga hx h0 hE hP
  obtain ⟨cv, hcv⟩ : ∃ c, (evC x).toArray = c := ⟨_, rfl⟩
  have HCV := Hd.mk hcv
  have HXV : Hd (Value.agg cv = x.v) := Hd.mk (by rw [← hcv]; rfl)
  have HC19 : Hd ((evC x)[19]? = some (.slice ga x.G.length x.gc)) := Hd.mk (by rw [← HGN.out, ← HGA.out]; rfl)
  clear hcv
  unfold Ev.v
  go_enter Try.func17, Try.ntmps17
  go_upto_region 1 with (fail)
  refine wp_name ?_; intro wa hwa
  obtain ⟨hb2, hbx, hfa⟩ := blk2_of (T1 := 52) (T2 := 38) (c1 := [.pointer (some ⟨P.pp, 0, none⟩)]) (c2 := evC x) hwa
  clear hwa
  have hnb : w.heap.size ∉ P.wr ∧ w.heap.size + 1 ∉ P.wr := by
    have h1 := H.out.lt P.bm (by simp [Pt.all])
    have h2 := H.out.lt P.be (by simp [Pt.all])
    simp [Pt.wr]; omega
  have HNE := Hd.mk hnb.1
  obtain ⟨b2, hb2e⟩ : ∃ p, w.heap.size = p := ⟨_, rfl⟩
  rw [hb2e] at hb2 hbx HNE ⊢
  obtain ⟨bx, hbxe⟩ : ∃ p, b2 + 1 = p := ⟨_, rfl⟩
  rw [hbxe] at hbx ⊢
  have c8 : wa.cell? ⟨bx, 8, none⟩ = some (.int .u64 x.now) := hbx.cell (i := 8) rfl
  have HB2A := Hd.mk hb2
  have HBXA := Hd.mk hbx
  have HFA := Hd.mk hfa
  clear hb2e hbxe hb2 hbx hfa hnb
  go_upto_region 2 with (fail)
  refine wp_name ?_; intro w1 hw1
  have hf1 := alloc_of hw1
  have hb5 := blk_of (T := 30) (c := [.int .u64 x.now]) hw1
  clear hw1 c8
  obtain ⟨b5, hb5e⟩ : ∃ p, wa.heap.size = p := ⟨_, rfl⟩
  rw [hb5e] at hb5 ⊢
  have HF1 := Hd.mk (HFA.out.trans hf1).drew
  have HPT := Hd.mk (H.out.fr0 HF1.out)
  have HWR := Hd.mk (H0.out.trans HF1.out)
  have HB2 : Hd (Blk w1.drew b2 52 [.pointer (some ⟨P.pp, 0, none⟩)]) := Hd.mk (HB2A.out.fr hf1 (by simp)).drew
  have HBX : Hd (Blk w1.drew bx 38 (evC x)) := Hd.mk (HBXA.out.fr hf1 (by simp)).drew
  have HB5 : Hd (Blk w1.drew b5 30 [.int .u64 x.now]) := Hd.mk hb5.drew
  clear hf1 hb5 hb5e HB2A HBXA HFA
  obtain rfl : ba = true := HBA.out.symm.trans HB0.out
  go_wp2_with fail
  refine wp_region_gs { R := Fr [], R1 := Fr [], gs := [Is (.agg cv), Is (.bool true), Is (.bool true), Is (.pointer (some ⟨bx, 18, none⟩)), Is (.int .i64 x.err), Is (.bool true), Is (.bool true), Is (.bool true), Is (.pointer (some ⟨bx, 19, none⟩)), Is (.slice ga x.G.length x.gc), Is (.int .i64 x.G.length), Is (.pointer (some ⟨P.pp, 0, none⟩)), Is (.int .u64 x.now), Is (.int .i64 (dueN s.E x.now)), Is (.bool false), Is (.bool false), Is (.bool false), No, No, No, No, Is (.bool false), Is (.bool false)], ds := [some 12, some 13, some 14, some 15, some 16, some 17, some 18, some 19, some 20, some 21, some 22, some 23, some 24, some 25, some 26, some 27, some 28, some 29, some 30, some 31, some 32, some 33, some 6], fl := [false, false, false, false, false, false, false, false, false, false, false, false, false, false, false, false, false, false, false, false, false, false, false], hs := [], hd := [] } [false, false, false, false, false, false, true, false, false, false, false, false, true, true, true, true, true, true, true, true, true, true, true, true, true, true, true, true, true, true, true, true, true, true, false, false, false, false, false, false, false, false, false, false, false, false, false] (by kernel_rfl) _ (by kernel_rfl) (by kernel_rfl) (by kernel_rfl) (by kernel_rfl) rfl [] (fun _ _ _ h1 h2 => h1.trans h2) (fun _ _ h => h) (staI (staI (staI (staI (staI (staI (staI (staI (staI (staI (staI (staI (staI (staI (staI (staI (staI (staN (staN (staN (staN (staI (staI sta0))))))))))))))))))))))) sth0 (fun _ _ h => h.size) _ (Fr.refl _ _) trivial ?_ ?_
  · refine ⟨?_, ?_, ?_, ?_, ?_, ?_, ?_, ?_, ?_, ?_, ?_, ?_, ?_, ?_, ?_, ?_, ?_, ?_, ?_, ?_, ?_, ?_, ?_, trivial⟩
    · intro σ w' hR hd
      simp only [fill, Nat.reduceAdd, if_true, Bool.false_eq_true, if_false]
      clear hd
      refine wpList_load rfl rfl (Try.isAgg38 _) (Try.sizeOf38 _) (blk_load (HBX.out.fr hR (by simp)) (n := 20) rfl HCV.out) rfl ?_
      go_wp2
      exact ⟨Fr.refl _ _, rfl⟩
    · intro σ w' hR hd
      simp only [fill, Nat.reduceAdd, if_true, Bool.false_eq_true, if_false]
      obtain h12 : σ 12 = _ := hd 0 (by decide)
      rw [h12]
      clear h12
      clear hd
      go_wp2_with fail
      rw [HXV.out]
      refine (bare_calls (HWR.out.trans hR) HX.out).mono ?_
      rintro r w4 ⟨rfl, hf0⟩
      have hf4 := Hd.mk hf0
      clear hf0
      rw [HBA.out]
      go_wp2
      exact ⟨hf4.out, rfl⟩
    · intro σ w' hR hd
      simp only [fill, Nat.reduceAdd, if_true, Bool.false_eq_true, if_false]
      obtain h13 : σ 13 = _ := hd 1 (by decide)
      rw [h13]
      clear h13
      clear hd
      go_wp2
      exact ⟨Fr.refl _ _, rfl⟩
    · intro σ w' hR hd
      simp only [fill, Nat.reduceAdd, if_true, Bool.false_eq_true, if_false]
      obtain h14 : σ 14 = _ := hd 2 (by decide)
      rw [h14]
      clear h14
      clear hd
      go_wp2
      exact ⟨Fr.refl _ _, rfl⟩
    · intro σ w' hR hd
      simp only [fill, Nat.reduceAdd, if_true, Bool.false_eq_true, if_false]
      obtain h14 : σ 14 = _ := hd 2 (by decide)
      obtain h15 : σ 15 = _ := hd 3 (by decide)
      rw [h14, h15]
      clear h14 h15
      clear hd
      have d18 : w'.cell? ⟨bx, 18, none⟩ = some (.int .i64 x.err) := (HBX.out.fr hR (by simp)).cell (i := 18) rfl
      go_wp2
      exact ⟨Fr.refl _ _, rfl⟩
    · intro σ w' hR hd
      simp only [fill, Nat.reduceAdd, if_true, Bool.false_eq_true, if_false]
      obtain h14 : σ 14 = _ := hd 2 (by decide)
      obtain h16 : σ 16 = _ := hd 4 (by decide)
      rw [h14, h16]
      clear h14 h16
      clear hd
      go_wp2
      exact ⟨Fr.refl _ _, by show Value.bool (x.err == 0) = _; rw [HER.out]; rfl⟩
    · intro σ w' hR hd
      simp only [fill, Nat.reduceAdd, if_true, Bool.false_eq_true, if_false]
      obtain h14 : σ 14 = _ := hd 2 (by decide)
      obtain h17 : σ 17 = _ := hd 5 (by decide)
      rw [h14, h17]
      clear h14 h17
      clear hd
      go_wp2
      exact ⟨Fr.refl _ _, rfl⟩
    · intro σ w' hR hd
      simp only [fill, Nat.reduceAdd, if_true, Bool.false_eq_true, if_false]
      obtain h18 : σ 18 = _ := hd 6 (by decide)
      rw [h18]
      clear h18
      clear hd
      go_wp2
      exact ⟨Fr.refl _ _, rfl⟩
    · intro σ w' hR hd
      simp only [fill, Nat.reduceAdd, if_true, Bool.false_eq_true, if_false]
      obtain h19 : σ 19 = _ := hd 7 (by decide)
      rw [h19]
      clear h19
      clear hd
      go_wp2
      exact ⟨Fr.refl _ _, rfl⟩
    · intro σ w' hR hd
      simp only [fill, Nat.reduceAdd, if_true, Bool.false_eq_true, if_false]
      obtain h19 : σ 19 = _ := hd 7 (by decide)
      obtain h20 : σ 20 = _ := hd 8 (by decide)
      rw [h19, h20]
      clear h19 h20
      clear hd
      have d19 : w'.cell? ⟨bx, 19, none⟩ = some (.slice ga x.G.length x.gc) := (HBX.out.fr hR (by simp)).cell (i := 19) HC19.out
      go_wp2
      exact ⟨Fr.refl _ _, rfl⟩
    · intro σ w' hR hd
      simp only [fill, Nat.reduceAdd, if_true, Bool.false_eq_true, if_false]
      obtain h19 : σ 19 = _ := hd 7 (by decide)
      obtain h21 : σ 21 = _ := hd 9 (by decide)
      rw [h19, h21]
      clear h19 h21
      clear hd
      go_wp2
      exact ⟨Fr.refl _ _, rfl⟩
    · intro σ w' hR hd
      simp only [fill, Nat.reduceAdd, if_true, Bool.false_eq_true, if_false]
      obtain h19 : σ 19 = _ := hd 7 (by decide)
      rw [h19]
      clear h19
      clear hd
      have d0 : w'.cell? ⟨b2, 0, none⟩ = some (.pointer (some ⟨P.pp, 0, none⟩)) := (HB2.out.fr hR (by simp)).cell (i := 0) rfl
      go_wp2
      exact ⟨Fr.refl _ _, rfl⟩
    · intro σ w' hR hd
      simp only [fill, Nat.reduceAdd, if_true, Bool.false_eq_true, if_false]
      obtain h19 : σ 19 = _ := hd 7 (by decide)
      rw [h19]
      clear h19
      clear hd
      have d0 : w'.cell? ⟨b5, 0, none⟩ = some (.int .u64 x.now) := (HB5.out.fr hR (by simp)).cell (i := 0) rfl
      go_wp2
      exact ⟨Fr.refl _ _, rfl⟩
    · intro σ w' hR hd
      simp only [fill, Nat.reduceAdd, if_true, Bool.false_eq_true, if_false]
      obtain h19 : σ 19 = _ := hd 7 (by decide)
      obtain h23 : σ 23 = _ := hd 11 (by decide)
      obtain h24 : σ 24 = _ := hd 12 (by decide)
      rw [h19, h23, h24]
      clear h19 h23 h24
      clear hd
      go_wp2_with fail
      refine (pdue_calls (HPT.out.fr0 hR) HE.out x.now).mono ?_
      rintro r w4 ⟨rfl, hf0⟩
      have hf4 := Hd.mk hf0
      clear hf0
      go_wp2
      exact ⟨hf4.out, rfl⟩
    · intro σ w' hR hd
      simp only [fill, Nat.reduceAdd, if_true, Bool.false_eq_true, if_false]
      obtain h19 : σ 19 = _ := hd 7 (by decide)
      obtain h22 : σ 22 = _ := hd 10 (by decide)
      obtain h25 : σ 25 = _ := hd 13 (by decide)
      rw [h19, h22, h25]
      clear h19 h22 h25
      clear hd
      go_wp2
      exact ⟨Fr.refl _ _, by show Value.bool ((x.G.length : Int) == (dueN s.E x.now : Int)) = _; rw [HLN.out]⟩
    · intro σ w' hR hd
      simp only [fill, Nat.reduceAdd, if_true, Bool.false_eq_true, if_false]
      obtain h19 : σ 19 = _ := hd 7 (by decide)
      obtain h26 : σ 26 = _ := hd 14 (by decide)
      rw [h19, h26]
      clear h19 h26
      clear hd
      go_wp2
      exact ⟨Fr.refl _ _, rfl⟩
    · intro σ w' hR hd
      simp only [fill, Nat.reduceAdd, if_true, Bool.false_eq_true, if_false]
      obtain h27 : σ 27 = _ := hd 15 (by decide)
      rw [h27]
      clear h27
      clear hd
      go_wp2
      exact ⟨Fr.refl _ _, rfl⟩
    · intro σ w' hR hd
      simp only [fill, Nat.reduceAdd, if_true, Bool.false_eq_true, if_false]
      obtain h28 : σ 28 = _ := hd 16 (by decide)
      rw [h28]
      clear h28
      clear hd
      go_wp2
      exact ⟨Fr.refl _ _, trivial⟩
    · intro σ w' hR hd
      simp only [fill, Nat.reduceAdd, if_true, Bool.false_eq_true, if_false]
      obtain h28 : σ 28 = _ := hd 16 (by decide)
      rw [h28]
      clear h28
      clear hd
      go_wp2
      exact ⟨Fr.refl _ _, trivial⟩
    · intro σ w' hR hd
      simp only [fill, Nat.reduceAdd, if_true, Bool.false_eq_true, if_false]
      obtain h28 : σ 28 = _ := hd 16 (by decide)
      rw [h28]
      clear h28
      clear hd
      go_wp2
      exact ⟨Fr.refl _ _, trivial⟩
    · intro σ w' hR hd
      simp only [fill, Nat.reduceAdd, if_true, Bool.false_eq_true, if_false]
      obtain h28 : σ 28 = _ := hd 16 (by decide)
      rw [h28]
      clear h28
      clear hd
      go_wp2
      exact ⟨Fr.refl _ _, trivial⟩
    · intro σ w' hR hd
      simp only [fill, Nat.reduceAdd, if_true, Bool.false_eq_true, if_false]
      obtain h28 : σ 28 = _ := hd 16 (by decide)
      rw [h28]
      clear h28
      clear hd
      go_wp2
      exact ⟨Fr.refl _ _, rfl⟩
    · intro σ w' hR hd
      simp only [fill, Nat.reduceAdd, if_true, Bool.false_eq_true, if_false]
      obtain h33 : σ 33 = _ := hd 21 (by decide)
      rw [h33]
      clear h33
      clear hd
      go_wp2
      exact ⟨Fr.refl _ _, rfl⟩
  · intro σ w3 hR hG hH
    obtain h6 : σ 6 = _ := hG 22 (by decide)
    simp only [fill, Nat.reduceAdd, if_true, Bool.false_eq_true, if_false, h6]
    clear h6
    clear hG
    have HF5 := Hd.mk (HF1.out.trans hR)
    have HP5 := Hd.mk (HPT.out.fr0 hR)
    clear hR
    go_wp2
    go_ret
    exact ⟨by rw [HGO.out.1]; rfl, by rw [HGO.out.2]; exact HP5.out, HF5.out.mono (by simp)⟩
set_option maxRecDepth 100000 in
set_option maxHeartbeats 8000000 in
theorem hadv_each {w0 w : World} (h0 : Fr [] w0 w) {P : Pt} (hP : ∀ k ∈ P.all, w0.heap.size ≤ k) {s : Ps} (h : PtAt w P s) (hE : s.E.length < 1000000) {x : Ev} (hx : EvOK w0 x) (hba : bareB (rho w0) x = true) (he : x.err = 0) (hln : ((x.G.length : Int) == (dueN s.E x.now : Int)) = true) : Calls Try.prog 17 #[.pointer (some ⟨P.pp, 0, none⟩), x.v] w fun r w' => r = .returned (.bool (advOkB (rho w0) s x)) ∧ PtAt w' P (advS (rho w0) s x) ∧ Fr P.wr w w' := by
  have HER := Hd.mk he
  have HLN := Hd.mk hln
  have HB0 := Hd.mk hba
  clear hba he hln
  obtain ⟨ba, hba⟩ : ∃ b, bareB (rho w0) x = b := ⟨_, rfl⟩
  obtain ⟨eb, heb⟩ : ∃ b, eachB (goB s x.now) x.G = b := ⟨_, rfl⟩
  obtain ⟨ga, hga⟩ : ∃ a, x.ga = a := ⟨_, rfl⟩
  have HBA := Hd.mk hba
  have HEB := Hd.mk heb
  have HX := Hd.mk hx
  have HGN := Hd.mk hx.gone.n
  have HGA := Hd.mk hga
  have HG : Hd (SlIs Qn.c 3 w0 ga x.G.length x.G) := Hd.mk (by rw [← hga, ← HGN.out]; exact hx.gone)
  have hgl : (x.G.length : Int) ≤ 9223372036854775807 := by have := hx.gone.le; omega
  have HPW : Hd (∀ k ∈ P.wr, w0.heap.size ≤ k) := Hd.mk (fun k hk => hP k (by simp only [Pt.wr, Pt.all, List.mem_cons, List.not_mem_nil, or_false] at hk ⊢; rcases hk with h | h <;> simp [h]))
  have H := Hd.mk h
  have H0 := Hd.mk h0
  have HE := Hd.mk hE
  clear h hba heb hga hx h0 hE hP
  obtain ⟨cv, hcv⟩ : ∃ c, (evC x).toArray = c := ⟨_, rfl⟩
  have HCV := Hd.mk hcv
  have HXV : Hd (Value.agg cv = x.v) := Hd.mk (by rw [← hcv]; rfl)
  have HC19 : Hd ((evC x)[19]? = some (.slice ga x.G.length x.gc)) := Hd.mk (by rw [← HGN.out, ← HGA.out]; rfl)
  clear hcv
  unfold Ev.v
  go_enter Try.func17, Try.ntmps17
  go_upto_region 1 with (fail)
  refine wp_name ?_; intro wa hwa
  obtain ⟨hb2, hbx, hfa⟩ := blk2_of (T1 := 52) (T2 := 38) (c1 := [.pointer (some ⟨P.pp, 0, none⟩)]) (c2 := evC x) hwa
  clear hwa
  have hnb : w.heap.size ∉ P.wr ∧ w.heap.size + 1 ∉ P.wr := by
    have h1 := H.out.lt P.bm (by simp [Pt.all])
    have h2 := H.out.lt P.be (by simp [Pt.all])
    simp [Pt.wr]; omega
  have HNE := Hd.mk hnb.1
  obtain ⟨b2, hb2e⟩ : ∃ p, w.heap.size = p := ⟨_, rfl⟩
  rw [hb2e] at hb2 hbx HNE ⊢
  obtain ⟨bx, hbxe⟩ : ∃ p, b2 + 1 = p := ⟨_, rfl⟩
  rw [hbxe] at hbx ⊢
  have c8 : wa.cell? ⟨bx, 8, none⟩ = some (.int .u64 x.now) := hbx.cell (i := 8) rfl
  have HB2A := Hd.mk hb2
  have HBXA := Hd.mk hbx
  have HFA := Hd.mk hfa
  clear hb2e hbxe hb2 hbx hfa hnb
  go_upto_region 2 with (fail)
  refine wp_name ?_; intro w1 hw1
  have hf1 := alloc_of hw1
  have hb5 := blk_of (T := 30) (c := [.int .u64 x.now]) hw1
  clear hw1 c8
  obtain ⟨b5, hb5e⟩ : ∃ p, wa.heap.size = p := ⟨_, rfl⟩
  rw [hb5e] at hb5 ⊢
  have HF1 := Hd.mk (HFA.out.trans hf1).drew
  have HPT := Hd.mk (H.out.fr0 HF1.out)
  have HWR := Hd.mk (H0.out.trans HF1.out)
  have HB2 : Hd (Blk w1.drew b2 52 [.pointer (some ⟨P.pp, 0, none⟩)]) := Hd.mk (HB2A.out.fr hf1 (by simp)).drew
  have HBX : Hd (Blk w1.drew bx 38 (evC x)) := Hd.mk (HBXA.out.fr hf1 (by simp)).drew
  have HB5 : Hd (Blk w1.drew b5 30 [.int .u64 x.now]) := Hd.mk hb5.drew
  clear hf1 hb5 hb5e HB2A HBXA HFA
  obtain rfl : ba = true := HBA.out.symm.trans HB0.out
  have hle : x.G.length = dueN s.E x.now := by have := eq_of_beq HLN.out; omega
  have HOK : Hd (advOkB (rho w0) s x = eb) := Hd.mk (by unfold advOkB; rw [HBA.out, HEB.out, decide_eq_true HER.out, decide_eq_true hle]; rfl)
  clear hle
  go_wp2_with fail
  refine wp_region_gs { R := Fr [], R1 := Fr [], gs := [Is (.agg cv), Is (.bool true), Is (.bool true), Is (.pointer (some ⟨bx, 18, none⟩)), Is (.int .i64 x.err), Is (.bool true), Is (.bool true), Is (.bool true), Is (.pointer (some ⟨bx, 19, none⟩)), Is (.slice ga x.G.length x.gc), Is (.int .i64 x.G.length), Is (.pointer (some ⟨P.pp, 0, none⟩)), Is (.int .u64 x.now), Is (.int .i64 (dueN s.E x.now)), Is (.bool true), Is (.bool true), Is (.bool true), Is (.pointer (some ⟨bx, 19, none⟩)), Is (.slice ga x.G.length x.gc), Is (.func (.func 32) #[] #[.pointer (some ⟨b2, 0, none⟩), .pointer (some ⟨b5, 0, none⟩)]), Is (.bool eb), Is (.bool eb), Is (.bool eb)], ds := [some 12, some 13, some 14, some 15, some 16, some 17, some 18, some 19, some 20, some 21, some 22, some 23, some 24, some 25, some 26, some 27, some 28, some 29, some 30, some 31, some 32, some 33, some 6], fl := [false, false, false, false, false, false, false, false, false, false, false, false, false, false, false, false, false, false, false, false, false, false, false], hs := [], hd := [] } [false, false, false, false, false, false, true, false, false, false, false, false, true, true, true, true, true, true, true, true, true, true, true, true, true, true, true, true, true, true, true, true, true, true, false, false, false, false, false, false, false, false, false, false, false, false, false] (by kernel_rfl) _ (by kernel_rfl) (by kernel_rfl) (by kernel_rfl) (by kernel_rfl) rfl [] (fun _ _ _ h1 h2 => h1.trans h2) (fun _ _ h => h) (staI (staI (staI (staI (staI (staI (staI (staI (staI (staI (staI (staI (staI (staI (staI (staI (staI (staI (staI (staI (staI (staI (staI sta0))))))))))))))))))))))) sth0 (fun _ _ h => h.size) _ (Fr.refl _ _) trivial ?_ ?_
  · refine ⟨?_, ?_, ?_, ?_, ?_, ?_, ?_, ?_, ?_, ?_, ?_, ?_, ?_, ?_, ?_, ?_, ?_, ?_, ?_, ?_, ?_, ?_, ?_, trivial⟩
    · intro σ w' hR hd
      simp only [fill, Nat.reduceAdd, if_true, Bool.false_eq_true, if_false]
      clear hd
      refine wpList_load rfl rfl (Try.isAgg38 _) (Try.sizeOf38 _) (blk_load (HBX.out.fr hR (by simp)) (n := 20) rfl HCV.out) rfl ?_
      go_wp2
      exact ⟨Fr.refl _ _, rfl⟩
    · intro σ w' hR hd
      simp only [fill, Nat.reduceAdd, if_true, Bool.false_eq_true, if_false]
      obtain h12 : σ 12 = _ := hd 0 (by decide)
      rw [h12]
      clear h12
      clear hd
      go_wp2_with fail
      rw [HXV.out]
      refine (bare_calls (HWR.out.trans hR) HX.out).mono ?_
      rintro r w4 ⟨rfl, hf0⟩
      have hf4 := Hd.mk hf0
      clear hf0
      rw [HBA.out]
      go_wp2
      exact ⟨hf4.out, rfl⟩
    · intro σ w' hR hd
      simp only [fill, Nat.reduceAdd, if_true, Bool.false_eq_true, if_false]
      obtain h13 : σ 13 = _ := hd 1 (by decide)
      rw [h13]
      clear h13
      clear hd
      go_wp2
      exact ⟨Fr.refl _ _, rfl⟩
    · intro σ w' hR hd
      simp only [fill, Nat.reduceAdd, if_true, Bool.false_eq_true, if_false]
      obtain h14 : σ 14 = _ := hd 2 (by decide)
      rw [h14]
      clear h14
      clear hd
      go_wp2
      exact ⟨Fr.refl _ _, rfl⟩
    · intro σ w' hR hd
      simp only [fill, Nat.reduceAdd, if_true, Bool.false_eq_true, if_false]
      obtain h14 : σ 14 = _ := hd 2 (by decide)
      obtain h15 : σ 15 = _ := hd 3 (by decide)
      rw [h14, h15]
      clear h14 h15
      clear hd
      have d18 : w'.cell? ⟨bx, 18, none⟩ = some (.int .i64 x.err) := (HBX.out.fr hR (by simp)).cell (i := 18) rfl
      go_wp2
      exact ⟨Fr.refl _ _, rfl⟩
    · intro σ w' hR hd
      simp only [fill, Nat.reduceAdd, if_true, Bool.false_eq_true, if_false]
      obtain h14 : σ 14 = _ := hd 2 (by decide)
      obtain h16 : σ 16 = _ := hd 4 (by decide)
      rw [h14, h16]
      clear h14 h16
      clear hd
      go_wp2
      exact ⟨Fr.refl _ _, by show Value.bool (x.err == 0) = _; rw [HER.out]; rfl⟩
    · intro σ w' hR hd
      simp only [fill, Nat.reduceAdd, if_true, Bool.false_eq_true, if_false]
      obtain h14 : σ 14 = _ := hd 2 (by decide)
      obtain h17 : σ 17 = _ := hd 5 (by decide)
      rw [h14, h17]
      clear h14 h17
      clear hd
      go_wp2
      exact ⟨Fr.refl _ _, rfl⟩
    · intro σ w' hR hd
      simp only [fill, Nat.reduceAdd, if_true, Bool.false_eq_true, if_false]
      obtain h18 : σ 18 = _ := hd 6 (by decide)
      rw [h18]
      clear h18
      clear hd
      go_wp2
      exact ⟨Fr.refl _ _, rfl⟩
    · intro σ w' hR hd
      simp only [fill, Nat.reduceAdd, if_true, Bool.false_eq_true, if_false]
      obtain h19 : σ 19 = _ := hd 7 (by decide)
      rw [h19]
      clear h19
      clear hd
      go_wp2
      exact ⟨Fr.refl _ _, rfl⟩
    · intro σ w' hR hd
      simp only [fill, Nat.reduceAdd, if_true, Bool.false_eq_true, if_false]
      obtain h19 : σ 19 = _ := hd 7 (by decide)
      obtain h20 : σ 20 = _ := hd 8 (by decide)
      rw [h19, h20]
      clear h19 h20
      clear hd
      have d19 : w'.cell? ⟨bx, 19, none⟩ = some (.slice ga x.G.length x.gc) := (HBX.out.fr hR (by simp)).cell (i := 19) HC19.out
      go_wp2
      exact ⟨Fr.refl _ _, rfl⟩
    · intro σ w' hR hd
      simp only [fill, Nat.reduceAdd, if_true, Bool.false_eq_true, if_false]
      obtain h19 : σ 19 = _ := hd 7 (by decide)
      obtain h21 : σ 21 = _ := hd 9 (by decide)
      rw [h19, h21]
      clear h19 h21
      clear hd
      go_wp2
      exact ⟨Fr.refl _ _, rfl⟩
    · intro σ w' hR hd
      simp only [fill, Nat.reduceAdd, if_true, Bool.false_eq_true, if_false]
      obtain h19 : σ 19 = _ := hd 7 (by decide)
      rw [h19]
      clear h19
      clear hd
      have d0 : w'.cell? ⟨b2, 0, none⟩ = some (.pointer (some ⟨P.pp, 0, none⟩)) := (HB2.out.fr hR (by simp)).cell (i := 0) rfl
      go_wp2
      exact ⟨Fr.refl _ _, rfl⟩
    · intro σ w' hR hd
      simp only [fill, Nat.reduceAdd, if_true, Bool.false_eq_true, if_false]
      obtain h19 : σ 19 = _ := hd 7 (by decide)
      rw [h19]
      clear h19
      clear hd
      have d0 : w'.cell? ⟨b5, 0, none⟩ = some (.int .u64 x.now) := (HB5.out.fr hR (by simp)).cell (i := 0) rfl
      go_wp2
      exact ⟨Fr.refl _ _, rfl⟩
    · intro σ w' hR hd
      simp only [fill, Nat.reduceAdd, if_true, Bool.false_eq_true, if_false]
      obtain h19 : σ 19 = _ := hd 7 (by decide)
      obtain h23 : σ 23 = _ := hd 11 (by decide)
      obtain h24 : σ 24 = _ := hd 12 (by decide)
      rw [h19, h23, h24]
      clear h19 h23 h24
      clear hd
      go_wp2_with fail
      refine (pdue_calls (HPT.out.fr0 hR) HE.out x.now).mono ?_
      rintro r w4 ⟨rfl, hf0⟩
      have hf4 := Hd.mk hf0
      clear hf0
      go_wp2
      exact ⟨hf4.out, rfl⟩
    · intro σ w' hR hd
      simp only [fill, Nat.reduceAdd, if_true, Bool.false_eq_true, if_false]
      obtain h19 : σ 19 = _ := hd 7 (by decide)
      obtain h22 : σ 22 = _ := hd 10 (by decide)
      obtain h25 : σ 25 = _ := hd 13 (by decide)
      rw [h19, h22, h25]
      clear h19 h22 h25
      clear hd
      go_wp2
      exact ⟨Fr.refl _ _, by show Value.bool ((x.G.length : Int) == (dueN s.E x.now : Int)) = _; rw [HLN.out]⟩
    · intro σ w' hR hd
      simp only [fill, Nat.reduceAdd, if_true, Bool.false_eq_true, if_false]
      obtain h19 : σ 19 = _ := hd 7 (by decide)
      obtain h26 : σ 26 = _ := hd 14 (by decide)
      rw [h19, h26]
      clear h19 h26
      clear hd
      go_wp2
      exact ⟨Fr.refl _ _, rfl⟩
    · intro σ w' hR hd
      simp only [fill, Nat.reduceAdd, if_true, Bool.false_eq_true, if_false]
      obtain h27 : σ 27 = _ := hd 15 (by decide)
      rw [h27]
      clear h27
      clear hd
      go_wp2
      exact ⟨Fr.refl _ _, rfl⟩
    · intro σ w' hR hd
      simp only [fill, Nat.reduceAdd, if_true, Bool.false_eq_true, if_false]
      obtain h28 : σ 28 = _ := hd 16 (by decide)
      rw [h28]
      clear h28
      clear hd
      go_wp2
      exact ⟨Fr.refl _ _, rfl⟩
    · intro σ w' hR hd
      simp only [fill, Nat.reduceAdd, if_true, Bool.false_eq_true, if_false]
      obtain h28 : σ 28 = _ := hd 16 (by decide)
      obtain h29 : σ 29 = _ := hd 17 (by decide)
      rw [h28, h29]
      clear h28 h29
      clear hd
      have d19 : w'.cell? ⟨bx, 19, none⟩ = some (.slice ga x.G.length x.gc) := (HBX.out.fr hR (by simp)).cell (i := 19) HC19.out
      go_wp2
      exact ⟨Fr.refl _ _, rfl⟩
    · intro σ w' hR hd
      simp only [fill, Nat.reduceAdd, if_true, Bool.false_eq_true, if_false]
      obtain h28 : σ 28 = _ := hd 16 (by decide)
      rw [h28]
      clear h28
      clear hd
      go_wp2
      exact ⟨Fr.refl _ _, rfl⟩
    · intro σ w' hR hd
      simp only [fill, Nat.reduceAdd, if_true, Bool.false_eq_true, if_false]
      obtain h28 : σ 28 = _ := hd 16 (by decide)
      obtain h30 : σ 30 = _ := hd 18 (by decide)
      obtain h31 : σ 31 = _ := hd 19 (by decide)
      rw [h28, h30, h31]
      clear h28 h30 h31
      clear hd
      go_wp2_with fail
      refine (each32_calls (now := x.now) (HPT.out.fr0 hR) (HB2.out.fr hR (by simp)) (HB5.out.fr hR (by simp)) (HG.out.fr (HWR.out.trans hR))).mono ?_
      rintro r w4 ⟨rfl, hf0⟩
      have hf4 := Hd.mk hf0
      clear hf0
      rw [HEB.out]
      go_wp2
      exact ⟨hf4.out, rfl⟩
    · intro σ w' hR hd
      simp only [fill, Nat.reduceAdd, if_true, Bool.false_eq_true, if_false]
      obtain h28 : σ 28 = _ := hd 16 (by decide)
      obtain h32 : σ 32 = _ := hd 20 (by decide)
      rw [h28, h32]
      clear h28 h32
      clear hd
      go_wp2
      exact ⟨Fr.refl _ _, rfl⟩
    · intro σ w' hR hd
      simp only [fill, Nat.reduceAdd, if_true, Bool.false_eq_true, if_false]
      obtain h33 : σ 33 = _ := hd 21 (by decide)
      rw [h33]
      clear h33
      clear hd
      go_wp2
      exact ⟨Fr.refl _ _, rfl⟩
  · intro σ w3 hR hG hH
    obtain h6 : σ 6 = _ := hG 22 (by decide)
    simp only [fill, Nat.reduceAdd, if_true, Bool.false_eq_true, if_false, h6]
    clear h6
    clear hG
    cases eb with
    | false =>
      have HGO := Hd.mk (adv_no HOK.out)
      have HF5 := Hd.mk (HF1.out.trans hR)
      have HP5 := Hd.mk (HPT.out.fr0 hR)
      clear hR
      go_wp2
      go_ret
      exact ⟨by rw [HGO.out.1]; rfl, by rw [HGO.out.2]; exact HP5.out, HF5.out.mono (by simp)⟩
    | true =>
      have HGO := Hd.mk (adv_yes HOK.out)
      have HF5 := Hd.mk (HF1.out.trans hR)
      have HP5 := Hd.mk (HPT.out.fr0 hR)
      have HK5 := Hd.mk (HB2.out.fr hR (by simp))
      obtain ⟨w5, hw5⟩ : ∃ x, w3 = x := ⟨_, rfl⟩
      have c19 : w3.cell? ⟨bx, 19, none⟩ = some (.slice ga x.G.length x.gc) := (HBX.out.fr hR (by simp)).cell (i := 19) HC19.out
      rw [hw5] at HF5 HP5 HK5 c19 ⊢
      clear hR hw5
      have HSTART : Hd (PtAt w5 P (dropAll s (x.G.take 0)) ∧ Blk w5 b2 52 [.pointer (some ⟨P.pp, 0, none⟩)] ∧ Fr P.wr w w5) := Hd.mk ⟨by simpa [dropAll] using HP5.out, HK5.out, HF5.out.mono (by simp)⟩
      go_wp2_with fail
      clear c19
      go_loopg [38] x.G.length (fun g v wr => ∃ k : Nat, k ≤ x.G.length ∧ x.G.length - k ≤ g ∧ v = .int .i64 (k : Nat) ∧ Hd (PtAt wr P (dropAll s (x.G.take k)) ∧ Blk wr b2 52 [.pointer (some ⟨P.pp, 0, none⟩)] ∧ Fr P.wr w wr))
      case atStart => exact ⟨0, Nat.zero_le _, by omega, rfl, HSTART⟩
      case round =>
        obtain ⟨k, hk, hg, rfl, HREL⟩ := hrel
        have HFW : Hd (Fr [] w0 wr) := Hd.mk (H0.out.weak HREL.out.2.2 (fun x hx => .inr (HPW.out x hx)))
        by_cases hlt : k < x.G.length
        · have hgr := HG.out.fr HFW.out
          obtain ⟨b, off, rfl, hb, hc⟩ := hgr.row (by omega)
          have e0 : wr.cell? ⟨b, off + k * 3, none⟩ = some (.string (x.G[k]).name) := hc k hlt 0 _ rfl
          have e1 : wr.cell? ⟨b, off + k * 3 + 1, none⟩ = some (.int .u16 (x.G[k]).ty) := hc k hlt 1 _ rfl
          have e2 : wr.cell? ⟨b, off + k * 3 + 2, none⟩ = some (.int .u16 (x.G[k]).cl) := hc k hlt 2 _ rfl
          clear hc hb hgr
          obtain ⟨q, hq⟩ : ∃ q, x.G[k] = q := ⟨_, rfl⟩
          rw [hq] at e0 e1 e2
          have HQ := Hd.mk hq
          clear hq
          have hltI : (k : Int) < (x.G.length : Int) := by omega
          go_upto_region 7 with (fail)
          clear e0 e1 e2
          refine wp_name ?_; intro w2 hw2
          have hf2 := alloc_of hw2
          have hb2 := blk_of (T := 28) (c := [.string q.name, .int .u16 q.ty, .int .u16 q.cl]) hw2
          clear hw2
          obtain ⟨bq, hbq⟩ : ∃ p, wr.heap.size = p := ⟨_, rfl⟩
          rw [hbq] at hb2 ⊢
          have d0 : w2.cell? ⟨bq, 0, none⟩ = some (.string q.name) := hb2.cell (i := 0) rfl
          have d1 : w2.cell? ⟨bq, 1, none⟩ = some (.int .u16 q.ty) := hb2.cell (i := 1) rfl
          have d2 : w2.cell? ⟨bq, 2, none⟩ = some (.int .u16 q.cl) := hb2.cell (i := 2) rfl
          have HP2 := Hd.mk (HREL.out.1.fr0 hf2)
          have HK2 := Hd.mk (HREL.out.2.1.fr hf2 (by simp))
          have HF2 := Hd.mk (HREL.out.2.2.trans (hf2.mono (T := P.wr) (by simp)))
          have p0 : w2.cell? ⟨b2, 0, none⟩ = some (.pointer (some ⟨P.pp, 0, none⟩)) := HK2.out.cell (i := 0) rfl
          clear hf2 hb2 hbq
          go_wp2_with fail
          refine (pdrop_calls HP2.out q).mono ?_
          rintro r w3 ⟨rfl, hp3, hf3⟩
          have HN3 : Hd (PtAt w3 P (dropAll s (x.G.take (k + 1))) ∧ Blk w3 b2 52 [.pointer (some ⟨P.pp, 0, none⟩)] ∧ Fr P.wr w w3) := Hd.mk ⟨by rw [List.take_succ_eq_append_getElem hlt, HQ.out, dropAll_app]; exact hp3, HK2.out.fr hf3 HNE.out, HF2.out.trans hf3⟩
          clear d0 d1 d2 hp3 hf3 p0
          go_wp2
          go_roundg (x.G.length - (k + 1))
          case measure => omega
          case rel => exact ⟨k + 1, by omega, by omega, by go_num, HN3⟩
        · have : k = x.G.length := by omega
          subst this
          have HPE : Hd (PtAt wr P (dropAll s x.G)) := Hd.mk (by have hx := HREL.out.1; rw [List.take_length] at hx; exact hx)
          go_wp2
          go_ret
          exact ⟨by rw [HGO.out.1]; rfl, by rw [HGO.out.2]; exact HPE.out, HREL.out.2.2⟩
theorem hadv_calls {w0 w : World} (h0 : Fr [] w0 w) {P : Pt} (hP : ∀ k ∈ P.all, w0.heap.size ≤ k) {s : Ps} (h : PtAt w P s) (hE : s.E.length < 1000000) {x : Ev} (hx : EvOK w0 x) : Calls Try.prog 17 #[.pointer (some ⟨P.pp, 0, none⟩), x.v] w fun r w' => r = .returned (.bool (advOkB (rho w0) s x)) ∧ PtAt w' P (advS (rho w0) s x) ∧ Fr P.wr w w' := by
  cases hba : bareB (rho w0) x with
  | false => exact hadv_bare h0 hP h hE hx hba
  | true =>
    by_cases he : x.err = 0
    · cases hln : ((x.G.length : Int) == (dueN s.E x.now : Int)) with
      | false => exact hadv_len h0 hP h hE hx hba he hln
      | true => exact hadv_each h0 hP h hE hx hba he hln
    · exact hadv_err h0 hP h hE hx hba he
end Go.Proofs.Ytbmejolmbfmdiaa
