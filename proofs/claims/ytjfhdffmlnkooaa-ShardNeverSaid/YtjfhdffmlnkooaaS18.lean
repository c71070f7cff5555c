import Derived.Test.YtjfhdffmlnkooaaRP
import Derived.Test.YtjfhdffmlnkooaaRH
import Derived.Test.YtjfhdffmlnkooaaRB
namespace Go.Proofs.Ytjfhdffmlnkooaa
open Go Go.RowKit Go.Proofs.MapL PPM Go.Proofs.YtjfhdffmlnkooaaW.PrintWords

theorem evict_hand (s : SS) (q : Qn) : (evictS s q).hand = s.hand := by unfold evictS; split <;> rfl
theorem live_self (e : Int) : liveB e e = false := by unfold liveB; simp
theorem Blk.first3 {w w2 : World} {g T : Nat} {c0 c1 c2 c3 c4 c5 c6 d0 d1 d2 : Value} (H : Blk w g T [c0, c1, c2, c3, c4, c5, c6])
    (hw : w2 = ((w.setCell ⟨g, 0, none⟩ d0).setCell ⟨g, 1, none⟩ d1).setCell ⟨g, 2, none⟩ d2) : Blk w2 g T [d0, d1, d2, c3, c4, c5, c6] ∧ Fr [g] w w2 := by
  subst hw
  exact ⟨((H.set 0 d0).set 1 d1).set 2 d2, (fr_set.trans fr_set).trans fr_set⟩
theorem never_live {a : En} {now : Int} (h : liveB a.expire now = true) (b : En) : beatsB a b now = decide (b.rank ≥ a.rank) := by
  unfold beatsB liveB at *
  simp at h
  simp [h]
/-- What an insertion of b behind a's makes. -/
theorem never_b {s : SS} (hh : s.hand < s.l.length) (hU : Uq s) {a b : En} {now : Int} (ha : s.ent b.q = some a) (hl : liveB a.expire now = true) :
    ∃ (f : Int) (want : En), (insR s b now).2 = ([], f) ∧ (insR s b now).1.ent b.q = some want ∧ liveB want.expire now = true ∧
      ((f = 4 ∧ want = a ∧ liveB b.expire now = false) ∨ (f = 7 ∧ want = a ∧ liveB b.expire now = true ∧ decide (b.rank ≥ a.rank) = false) ∨ (f = 0 ∧ want = b ∧ liveB b.expire now = true ∧ decide (b.rank ≥ a.rank) = true)) := by
  cases hb : liveB b.expire now with
  | false => rw [ins_dead hb]; exact ⟨4, a, rfl, ha, hl, .inl ⟨rfl, rfl, rfl⟩⟩
  | true =>
    cases hr : decide (b.rank ≥ a.rank) with
    | false =>
      rw [ins_low hb ha ((never_live hl b).trans hr)]
      exact ⟨7, a, rfl, ha, hl, .inr (.inl ⟨rfl, rfl, rfl, rfl⟩)⟩
    | true =>
      obtain ⟨h2, -, -, he⟩ := ins_beats hU hb ha ((never_live hl b).trans hr)
      exact ⟨0, b, h2, by rw [he, if_pos rfl], hb, .inr (.inr ⟨rfl, rfl, rfl, rfl⟩)⟩
set_option maxRecDepth 100000 in
set_option maxHeartbeats 8000000 in
theorem never_law {w : World} {v : Value} {ds : List Dd} (hD : DeedsAt w v ds) (a b : En) (ha : RdE w a) (hb : RdE w b) (now : Int) (hn : TOk now) : Calls Try.prog 3 #[v, a.v, b.v, .int .u64 now] w fun r w' => r = .returned (.bool true) ∧ Fr [] w w' := by
  have HTA := Hd.mk ha.t
  have HRA := Hd.mk ha
  have HRB := Hd.mk hb
  have HTN := Hd.mk hn
  clear ha hb hn
  unfold En.v
  go_enter Try.func3, Try.ntmps3
  go_upto_region 1 with (fail)
  refine wp_name ?_; intro w0 hw0
  have hF0 : Fr [] w w0 := alloc2_of hw0
  have ha0 : Blk w0 w.heap.size 29 [.string a.q.name, .int .u16 a.q.ty, .int .u16 a.q.cl, .slice a.ra a.rn a.rc, .int .i64 a.rcode, .int .i64 a.rank, .int .u64 a.expire] := alloc2_fst hw0
  have hb0 : Blk w0 (w.heap.size + 1) 29 [.string b.q.name, .int .u16 b.q.ty, .int .u16 b.q.cl, .slice b.ra b.rn b.rc, .int .i64 b.rcode, .int .i64 b.rank, .int .u64 b.expire] := alloc2_snd hw0
  clear hw0
  obtain ⟨xa, hxa⟩ : ∃ x, w.heap.size = x := ⟨_, rfl⟩
  obtain ⟨xb, hxb⟩ : ∃ x, xa + 1 = x := ⟨_, rfl⟩
  have HXW : Hd (w.heap.size ≤ xa ∧ w.heap.size ≤ xb ∧ xa ≠ xb) := Hd.mk (by omega)
  rw [hxa] at ha0 hb0
  rw [hxb] at hb0
  simp only [hxa, hxb]
  have HF := Hd.mk hF0
  have HA := Hd.mk ha0
  have HB := Hd.mk hb0
  have HD := Hd.mk (hD.fr hF0)
  clear hF0 ha0 hb0 hxa hxb hD
  go_wp2_with fail
  refine (shown_calls _).mono ?_
  rintro r wn ⟨rfl, hf⟩
  have HF := Hd.mk (HF.out.trans hf)
  have HA := Hd.mk (HA.out.fr hf (by simp))
  have HB := Hd.mk (HB.out.fr hf (by simp))
  have HD := Hd.mk (HD.out.fr hf)
  clear hf
  go_wp2_with fail
  refine (ran_calls HD.out).mono ?_
  rintro r wn ⟨B, s, rfl, hs, hl4, hh4, hen, hf, hge⟩
  have HXL : Hd (∀ k ∈ B.all, xa < k ∧ xb < k) := Hd.mk fun k hk => by have := hge k hk; have := HA.out.lt; have := HB.out.lt; omega
  have HNEW : Hd (∀ k ∈ B.all, w.heap.size ≤ k) := Hd.mk fun k hk => by have := HXL.out k hk; have := HXW.out; omega
  have HNX : Hd (xa ∉ B.wr ∧ xb ∉ B.wr) := Hd.mk ⟨fun h => by have := HXL.out _ (B.wr_all _ h); omega, fun h => by have := HXL.out _ (B.wr_all _ h); omega⟩
  have HF := Hd.mk (HF.out.trans hf)
  have HA := Hd.mk (HA.out.fr hf (by simp))
  have HB := Hd.mk (HB.out.fr hf (by simp))
  have HS := Hd.mk hs
  have HUS := Hd.mk hs.uq
  have HH := Hd.mk (hl4.symm ▸ hh4 : s.hand < s.l.length)
  clear hf hs hge hl4 hh4 hen
  obtain ⟨ha_0, ha_1, ha_2, ha_3, ha_4, ha_5, ha_6, ha_f⟩ := HA.out.cells7
  go_wp2_with fail
  clear ha_0 ha_1 ha_2 ha_3 ha_4 ha_5 ha_6 ha_f
  refine (evict_calls HS.out a.q).mono ?_
  rintro r wn ⟨rfl, hs, hf⟩
  have HF := Hd.mk (fr_over HF.out HNEW.out hf)
  have HA := Hd.mk (HA.out.fr hf HNX.out.1)
  have HB := Hd.mk (HB.out.fr hf HNX.out.2)
  have HS := Hd.mk hs
  clear hf hs
  obtain ⟨ha_0, ha_1, ha_2, ha_3, ha_4, ha_5, ha_6, ha_f⟩ := HA.out.cells7
  go_wp2_with fail
  clear ha_0 ha_1 ha_2 ha_3 ha_4 ha_5 ha_6 ha_f
  refine (shinsert_calls HS.out a HTA.out HTN.out).mono ?_
  rintro r wn ⟨v2, rfl, -, -, hs, hf⟩
  have HU1 := Hd.mk HS.out.uq
  have HF := Hd.mk (fr_over HF.out HNEW.out hf)
  have HA := Hd.mk (HA.out.fr hf HNX.out.1)
  have HB := Hd.mk (HB.out.fr hf HNX.out.2)
  have HS := Hd.mk hs
  clear hf hs
  have HN1 : Hd ((evictS s a.q).ent a.q = none) := Hd.mk (by rw [evict_ent HUS.out, if_pos rfl])
  have HH1 : Hd ((evictS s a.q).hand < (evictS s a.q).l.length) := Hd.mk (by have h1 := evict_len s a.q; have h2 := evict_hand s a.q; rw [h1, h2]; exact HH.out)
  cases hla : liveB a.expire now with
  | false =>
    have hle : decide (a.expire ≤ now) = true := by unfold liveB at hla; simpa using hla
    have h22 : (insR (evictS s a.q) a now).2.2 = 4 := by rw [ins_dead hla]
    rw [h22]
    clear hla h22
    obtain ⟨r0, r1, r2, r3, r4, r5, r6, rf⟩ := HA.out.cells7
    go_wp2
    go_ret
    exact ⟨rfl, HF.out⟩
  | true =>
  obtain ⟨h2, hU2, hh2, he2⟩ := ins_new HH1.out HU1.out hla HN1.out
  have h22 : (insR (evictS s a.q) a now).2.2 = 0 := by rw [h2]
  rw [h22]
  have HLA := Hd.mk hla
  obtain ⟨s2, hs2⟩ : ∃ s2, (insR (evictS s a.q) a now).1 = s2 := ⟨_, rfl⟩
  rw [hs2] at hU2 hh2 he2 HS
  have hl2 : s2.l.length = (evictS s a.q).l.length := by rw [← hs2]; exact ins_len _ _ _
  have HE2 : Hd (s2.ent a.q = some a) := Hd.mk (by rw [he2, if_pos rfl])
  have HH2 : Hd (s2.hand < s2.l.length) := Hd.mk (by rw [hl2]; exact hh2)
  have HU2 := Hd.mk hU2
  clear h2 hU2 hh2 he2 hs2 hl2 hla h22
  obtain ⟨r0, r1, r2, r3, r4, r5, r6, rf⟩ := HA.out.cells7
  obtain ⟨k0, k1, k2, k3, k4, k5, k6, kf⟩ := HB.out.cells7
  go_upto_region 8 with (fail)
  refine wp_name ?_; intro w8 hw8
  obtain ⟨hb8, f8⟩ := HB.out.first3 hw8
  clear hw8 r0 r1 r2 r3 r4 r5 r6 rf k0 k1 k2 k3 k4 k5 k6 kf
  have HF := Hd.mk (HF.out.weak f8 (by simp; exact HXW.out.2.1))
  have HA := Hd.mk (HA.out.fr f8 (by simp; exact HXW.out.2.2))
  have HS := Hd.mk (HS.out.fr f8 (fun k hk => by have := HXL.out k hk; simp; omega))
  obtain ⟨b', hb'⟩ : ∃ b' : En, b' = ⟨a.q, b.ra, b.rn, b.rc, b.rcode, b.rank, b.expire⟩ := ⟨_, rfl⟩
  have HB : Hd (Blk w8 xb 29 [.string b'.q.name, .int .u16 b'.q.ty, .int .u16 b'.q.cl, .slice b'.ra b'.rn b'.rc, .int .i64 b'.rcode, .int .i64 b'.rank, .int .u64 b'.expire]) := Hd.mk (by rw [hb']; exact hb8)
  have HRB' : Hd (RdE w b') := Hd.mk (by rw [hb']; exact ⟨HRB.out.t, HRB.out.r⟩)
  have HBQ : Hd (b'.q = a.q) := Hd.mk (by rw [hb'])
  clear f8 hb8 hb'
  obtain ⟨hb_0, hb_1, hb_2, hb_3, hb_4, hb_5, hb_6, hb_f⟩ := HB.out.cells7
  go_wp2_with fail
  clear hb_0 hb_1 hb_2 hb_3 hb_4 hb_5 hb_6 hb_f
  refine (shinsert_calls HS.out b' HRB'.out.t HTN.out).mono ?_
  rintro r wn ⟨v3, rfl, -, -, hs, hf⟩
  have HF := Hd.mk (fr_over HF.out HNEW.out hf)
  have HA := Hd.mk (HA.out.fr hf HNX.out.1)
  have HB := Hd.mk (HB.out.fr hf HNX.out.2)
  have HS := Hd.mk hs
  clear hf hs
  obtain ⟨f, want, h2, hw, hlw, hcs⟩ := never_b (b := b') HH2.out HU2.out (a := a) (now := now) (by rw [HBQ.out]; exact HE2.out) HLA.out
  have h22 : (insR s2 b' now).2.2 = f := by rw [h2]
  rw [h22]
  have HU3 := Hd.mk HS.out.uq
  obtain ⟨s3, hs3⟩ : ∃ s3, (insR s2 b' now).1 = s3 := ⟨_, rfl⟩
  rw [hs3] at hw HS HU3
  have HW3 : Hd (s3.ent a.q = some want) := Hd.mk (by rw [← HBQ.out]; exact hw)
  have HLW := Hd.mk hlw
  have HCS := Hd.mk hcs
  have HRW : Hd (RdE w want) := Hd.mk (by rcases hcs with ⟨-, h, -⟩ | ⟨-, h, -⟩ | ⟨-, h, -⟩ <;> rw [h] <;> first | exact HRA.out | exact HRB'.out)
  clear h2 hw hlw hcs h22 hs3
  obtain ⟨ha_0, ha_1, ha_2, ha_3, ha_4, ha_5, ha_6, ha_f⟩ := HA.out.cells7
  go_wp2_with fail
  clear ha_0 ha_1 ha_2 ha_3 ha_4 ha_5 ha_6 ha_f
  refine (lookup_calls HS.out a.q now).mono ?_
  rintro r wn ⟨rfl, hs, hf⟩
  have ht : (lookR s3 a.q now).2 = (want, true) := by rw [look_told, HW3.out]; show (if liveB want.expire now then _ else _) = _; rw [HLW.out]; rfl
  have h21 : (lookR s3 a.q now).2.1 = want := by rw [ht]
  have h22 : (lookR s3 a.q now).2.2 = true := by rw [ht]
  rw [h21, h22]
  clear ht h21 h22
  have HF := Hd.mk (fr_over HF.out HNEW.out hf)
  have HA := Hd.mk (HA.out.fr hf HNX.out.1)
  have HB := Hd.mk (HB.out.fr hf HNX.out.2)
  have HS := Hd.mk hs
  clear hf hs
  obtain ⟨s4, hs4⟩ : ∃ s4, (lookR s3 a.q now).1 = s4 := ⟨_, rfl⟩
  rw [hs4] at HS
  have HW4 : Hd (s4.ent a.q = some want) := Hd.mk (by rw [← hs4, look_ent HU3.out]; exact HW3.out)
  clear hs4
  unfold En.v
  go_upto_region 10 with (fail)
  refine wp_name ?_; intro wxx hwa
  have hfa := alloc_of hwa
  have hba := blk_of (T := 29) (c := [.string want.q.name, .int .u16 want.q.ty, .int .u16 want.q.cl, .slice want.ra want.rn want.rc, .int .i64 want.rcode, .int .i64 want.rank, .int .u64 want.expire]) hwa
  clear hwa
  obtain ⟨xx, hxx⟩ : ∃ x, wn.heap.size = x := ⟨_, rfl⟩
  rw [hxx] at hba ⊢
  have NHX : Hd (xx ∉ B.wr ∧ w.heap.size ≤ xx ∧ xx ∉ B.all) := Hd.mk ⟨fun h => by have := HS.out.lt _ (B.wr_all _ h); omega, by have := HF.out.size; omega, fun h => by have := HS.out.lt _ h; omega⟩
  have NHXHA : Hd (xx ≠ xa) := Hd.mk (by have := HA.out.lt; omega)
  have NHXHB : Hd (xx ≠ xb) := Hd.mk (by have := HB.out.lt; omega)
  have HF := Hd.mk (HF.out.trans hfa)
  have HA := Hd.mk (HA.out.fr hfa (by simp))
  have HB := Hd.mk (HB.out.fr hfa (by simp))
  have HS := Hd.mk (HS.out.fr0 hfa)
  have HX := Hd.mk hba
  clear hfa hba hxx
  obtain ⟨ha_0, ha_1, ha_2, ha_3, ha_4, ha_5, ha_6, ha_f⟩ := HA.out.cells7
  go_upto_region 11 with (fail)
  clear ha_0 ha_1 ha_2 ha_3 ha_4 ha_5 ha_6 ha_f
  refine wp_name ?_; intro wxw hwa
  have hfa := alloc_of hwa
  have hba := blk_of (T := 29) (c := [.string a.q.name, .int .u16 a.q.ty, .int .u16 a.q.cl, .slice a.ra a.rn a.rc, .int .i64 a.rcode, .int .i64 a.rank, .int .u64 a.expire]) hwa
  clear hwa
  obtain ⟨xw, hxx⟩ : ∃ x, wxx.heap.size = x := ⟨_, rfl⟩
  rw [hxx] at hba ⊢
  have NHW : Hd (xw ∉ B.wr ∧ w.heap.size ≤ xw ∧ xw ∉ B.all) := Hd.mk ⟨fun h => by have := HS.out.lt _ (B.wr_all _ h); omega, by have := HF.out.size; omega, fun h => by have := HS.out.lt _ h; omega⟩
  have NHWHA : Hd (xw ≠ xa) := Hd.mk (by have := HA.out.lt; omega)
  have NHWHB : Hd (xw ≠ xb) := Hd.mk (by have := HB.out.lt; omega)
  have NHWHX : Hd (xw ≠ xx) := Hd.mk (by have := HX.out.lt; omega)
  have HF := Hd.mk (HF.out.trans hfa)
  have HA := Hd.mk (HA.out.fr hfa (by simp))
  have HB := Hd.mk (HB.out.fr hfa (by simp))
  have HS := Hd.mk (HS.out.fr0 hfa)
  have HX := Hd.mk (HX.out.fr hfa (by simp))
  have HW := Hd.mk hba
  clear hfa hba hxx

  have HNW : Hd (xw ≠ xa ∧ xw ≠ xb ∧ xw ≠ xx) := Hd.mk ⟨NHWHA.out, NHWHB.out, NHWHX.out⟩
  rcases HCS.out with ⟨hf0, hwe, hbl⟩ | ⟨hf0, hwe, hbl, hbr⟩ | ⟨hf0, hwe, hbl, hbr⟩
  · subst hf0
    have HWE := Hd.mk hwe
    unfold liveB at hbl
    clear hwe
    have HW := Hd.mk (by rw [HWE.out]; exact HW.out : Blk _ xw 29 [.string want.q.name, .int .u16 want.q.ty, .int .u16 want.q.cl, .slice want.ra want.rn want.rc, .int .i64 want.rcode, .int .i64 want.rank, .int .u64 want.expire])
    obtain ⟨ha_0, ha_1, ha_2, ha_3, ha_4, ha_5, ha_6, ha_f⟩ := HA.out.cells7
    obtain ⟨hb_0, hb_1, hb_2, hb_3, hb_4, hb_5, hb_6, hb_f⟩ := HB.out.cells7
    obtain ⟨hw_0, hw_1, hw_2, hw_3, hw_4, hw_5, hw_6, hw_f⟩ := HW.out.cells7
    go_wp2_with fail
    clear ha_0 ha_1 ha_2 ha_3 ha_4 ha_5 ha_6 ha_f hb_0 hb_1 hb_2 hb_3 hb_4 hb_5 hb_6 hb_f hw_0 hw_1 hw_2 hw_3 hw_4 hw_5 hw_6 hw_f
    refine (lookup_calls HS.out a.q want.expire).mono ?_
    rintro r wn ⟨rfl, hs, hf⟩
    have ht : (lookR s4 a.q want.expire).2 = (zeroEn, false) := by rw [look_told, HW4.out]; show (if liveB want.expire want.expire then _ else _) = _; rw [live_self]; rfl
    have h21 : (lookR s4 a.q want.expire).2.1 = zeroEn := by rw [ht]
    have h22 : (lookR s4 a.q want.expire).2.2 = false := by rw [ht]
    rw [h21, h22]
    clear ht h21 h22
    have HF := Hd.mk (fr_over HF.out HNEW.out hf)
    have HA := Hd.mk (HA.out.fr hf HNX.out.1)
    have HB := Hd.mk (HB.out.fr hf HNX.out.2)
    have HX := Hd.mk (HX.out.fr hf NHX.out.1)
    have HW := Hd.mk (HW.out.fr hf NHW.out.1)
    have HS := Hd.mk hs
    clear hf hs
    unfold zeroEn En.v
    go_upto_region 14 with (fail)
    refine wp_name ?_; intro wxy hwa
    have hfa := alloc_of hwa
    have hba := blk_of (T := 29) (c := [.string ⟨#[]⟩, .int .u16 0, .int .u16 0, .slice none 0 0, .int .i64 0, .int .i64 0, .int .u64 0]) hwa
    clear hwa
    obtain ⟨xy, hxx⟩ : ∃ x, wn.heap.size = x := ⟨_, rfl⟩
    rw [hxx] at hba ⊢
    have NHY : Hd (xy ∉ B.wr ∧ w.heap.size ≤ xy ∧ xy ∉ B.all) := Hd.mk ⟨fun h => by have := HS.out.lt _ (B.wr_all _ h); omega, by have := HF.out.size; omega, fun h => by have := HS.out.lt _ h; omega⟩
    have NHYHA : Hd (xy ≠ xa) := Hd.mk (by have := HA.out.lt; omega)
    have NHYHB : Hd (xy ≠ xb) := Hd.mk (by have := HB.out.lt; omega)
    have NHYHX : Hd (xy ≠ xx) := Hd.mk (by have := HX.out.lt; omega)
    have NHYHW : Hd (xy ≠ xw) := Hd.mk (by have := HW.out.lt; omega)
    have HF := Hd.mk (HF.out.trans hfa)
    have HA := Hd.mk (HA.out.fr hfa (by simp))
    have HB := Hd.mk (HB.out.fr hfa (by simp))
    have HS := Hd.mk (HS.out.fr0 hfa)
    have HX := Hd.mk (HX.out.fr hfa (by simp))
    have HW := Hd.mk (HW.out.fr hfa (by simp))
    have HY := Hd.mk hba
    clear hfa hba hxx

    obtain ⟨hx_0, hx_1, hx_2, hx_3, hx_4, hx_5, hx_6, hx_f⟩ := HX.out.cells7
    obtain ⟨hw_0, hw_1, hw_2, hw_3, hw_4, hw_5, hw_6, hw_f⟩ := HW.out.cells7
    obtain ⟨ha_0, ha_1, ha_2, ha_3, ha_4, ha_5, ha_6, ha_f⟩ := HA.out.cells7
    obtain ⟨hb_0, hb_1, hb_2, hb_3, hb_4, hb_5, hb_6, hb_f⟩ := HB.out.cells7
    go_wp2_with fail
    clear hx_0 hx_1 hx_2 hx_3 hx_4 hx_5 hx_6 hx_f hw_0 hw_1 hw_2 hw_3 hw_4 hw_5 hw_6 hw_f ha_0 ha_1 ha_2 ha_3 ha_4 ha_5 ha_6 ha_f hb_0 hb_1 hb_2 hb_3 hb_4 hb_5 hb_6 hb_f
    refine (same_calls (HRW.out.fr HF.out)).mono ?_
    rintro r wn ⟨rfl, hf⟩
    have HF := Hd.mk (HF.out.trans hf)
    have HA := Hd.mk (HA.out.fr hf (by simp))
    have HB := Hd.mk (HB.out.fr hf (by simp))
    have HS := Hd.mk (HS.out.fr0 hf)
    have HX := Hd.mk (HX.out.fr hf (by simp))
    have HW := Hd.mk (HW.out.fr hf (by simp))
    have HY := Hd.mk (HY.out.fr hf (by simp))
    clear hf
    obtain ⟨hy_0, hy_1, hy_2, hy_3, hy_4, hy_5, hy_6, hy_f⟩ := HY.out.cells7
    obtain ⟨ha_0, ha_1, ha_2, ha_3, ha_4, ha_5, ha_6, ha_f⟩ := HA.out.cells7
    obtain ⟨hb_0, hb_1, hb_2, hb_3, hb_4, hb_5, hb_6, hb_f⟩ := HB.out.cells7
    go_wp2_with fail
    clear hy_0 hy_1 hy_2 hy_3 hy_4 hy_5 hy_6 hy_f ha_0 ha_1 ha_2 ha_3 ha_4 ha_5 ha_6 ha_f hb_0 hb_1 hb_2 hb_3 hb_4 hb_5 hb_6 hb_f
    refine (same_calls (RdE.zero _)).mono ?_
    rintro r wn ⟨rfl, hf⟩
    have HF := Hd.mk (HF.out.trans hf)
    clear hf
    go_wp2
    go_ret
    exact ⟨rfl, HF.out⟩
  · subst hf0
    have HWE := Hd.mk hwe
    unfold liveB at hbl
    clear hwe
    have HW := Hd.mk (by rw [HWE.out]; exact HW.out : Blk _ xw 29 [.string want.q.name, .int .u16 want.q.ty, .int .u16 want.q.cl, .slice want.ra want.rn want.rc, .int .i64 want.rcode, .int .i64 want.rank, .int .u64 want.expire])
    obtain ⟨ha_0, ha_1, ha_2, ha_3, ha_4, ha_5, ha_6, ha_f⟩ := HA.out.cells7
    obtain ⟨hb_0, hb_1, hb_2, hb_3, hb_4, hb_5, hb_6, hb_f⟩ := HB.out.cells7
    obtain ⟨hw_0, hw_1, hw_2, hw_3, hw_4, hw_5, hw_6, hw_f⟩ := HW.out.cells7
    go_wp2_with fail
    clear ha_0 ha_1 ha_2 ha_3 ha_4 ha_5 ha_6 ha_f hb_0 hb_1 hb_2 hb_3 hb_4 hb_5 hb_6 hb_f hw_0 hw_1 hw_2 hw_3 hw_4 hw_5 hw_6 hw_f
    refine (lookup_calls HS.out a.q want.expire).mono ?_
    rintro r wn ⟨rfl, hs, hf⟩
    have ht : (lookR s4 a.q want.expire).2 = (zeroEn, false) := by rw [look_told, HW4.out]; show (if liveB want.expire want.expire then _ else _) = _; rw [live_self]; rfl
    have h21 : (lookR s4 a.q want.expire).2.1 = zeroEn := by rw [ht]
    have h22 : (lookR s4 a.q want.expire).2.2 = false := by rw [ht]
    rw [h21, h22]
    clear ht h21 h22
    have HF := Hd.mk (fr_over HF.out HNEW.out hf)
    have HA := Hd.mk (HA.out.fr hf HNX.out.1)
    have HB := Hd.mk (HB.out.fr hf HNX.out.2)
    have HX := Hd.mk (HX.out.fr hf NHX.out.1)
    have HW := Hd.mk (HW.out.fr hf NHW.out.1)
    have HS := Hd.mk hs
    clear hf hs
    unfold zeroEn En.v
    go_upto_region 14 with (fail)
    refine wp_name ?_; intro wxy hwa
    have hfa := alloc_of hwa
    have hba := blk_of (T := 29) (c := [.string ⟨#[]⟩, .int .u16 0, .int .u16 0, .slice none 0 0, .int .i64 0, .int .i64 0, .int .u64 0]) hwa
    clear hwa
    obtain ⟨xy, hxx⟩ : ∃ x, wn.heap.size = x := ⟨_, rfl⟩
    rw [hxx] at hba ⊢
    have NHY : Hd (xy ∉ B.wr ∧ w.heap.size ≤ xy ∧ xy ∉ B.all) := Hd.mk ⟨fun h => by have := HS.out.lt _ (B.wr_all _ h); omega, by have := HF.out.size; omega, fun h => by have := HS.out.lt _ h; omega⟩
    have NHYHA : Hd (xy ≠ xa) := Hd.mk (by have := HA.out.lt; omega)
    have NHYHB : Hd (xy ≠ xb) := Hd.mk (by have := HB.out.lt; omega)
    have NHYHX : Hd (xy ≠ xx) := Hd.mk (by have := HX.out.lt; omega)
    have NHYHW : Hd (xy ≠ xw) := Hd.mk (by have := HW.out.lt; omega)
    have HF := Hd.mk (HF.out.trans hfa)
    have HA := Hd.mk (HA.out.fr hfa (by simp))
    have HB := Hd.mk (HB.out.fr hfa (by simp))
    have HS := Hd.mk (HS.out.fr0 hfa)
    have HX := Hd.mk (HX.out.fr hfa (by simp))
    have HW := Hd.mk (HW.out.fr hfa (by simp))
    have HY := Hd.mk hba
    clear hfa hba hxx

    obtain ⟨hx_0, hx_1, hx_2, hx_3, hx_4, hx_5, hx_6, hx_f⟩ := HX.out.cells7
    obtain ⟨hw_0, hw_1, hw_2, hw_3, hw_4, hw_5, hw_6, hw_f⟩ := HW.out.cells7
    obtain ⟨ha_0, ha_1, ha_2, ha_3, ha_4, ha_5, ha_6, ha_f⟩ := HA.out.cells7
    obtain ⟨hb_0, hb_1, hb_2, hb_3, hb_4, hb_5, hb_6, hb_f⟩ := HB.out.cells7
    go_wp2_with fail
    clear hx_0 hx_1 hx_2 hx_3 hx_4 hx_5 hx_6 hx_f hw_0 hw_1 hw_2 hw_3 hw_4 hw_5 hw_6 hw_f ha_0 ha_1 ha_2 ha_3 ha_4 ha_5 ha_6 ha_f hb_0 hb_1 hb_2 hb_3 hb_4 hb_5 hb_6 hb_f
    refine (same_calls (HRW.out.fr HF.out)).mono ?_
    rintro r wn ⟨rfl, hf⟩
    have HF := Hd.mk (HF.out.trans hf)
    have HA := Hd.mk (HA.out.fr hf (by simp))
    have HB := Hd.mk (HB.out.fr hf (by simp))
    have HS := Hd.mk (HS.out.fr0 hf)
    have HX := Hd.mk (HX.out.fr hf (by simp))
    have HW := Hd.mk (HW.out.fr hf (by simp))
    have HY := Hd.mk (HY.out.fr hf (by simp))
    clear hf
    obtain ⟨hy_0, hy_1, hy_2, hy_3, hy_4, hy_5, hy_6, hy_f⟩ := HY.out.cells7
    obtain ⟨ha_0, ha_1, ha_2, ha_3, ha_4, ha_5, ha_6, ha_f⟩ := HA.out.cells7
    obtain ⟨hb_0, hb_1, hb_2, hb_3, hb_4, hb_5, hb_6, hb_f⟩ := HB.out.cells7
    go_wp2_with fail
    clear hy_0 hy_1 hy_2 hy_3 hy_4 hy_5 hy_6 hy_f ha_0 ha_1 ha_2 ha_3 ha_4 ha_5 ha_6 ha_f hb_0 hb_1 hb_2 hb_3 hb_4 hb_5 hb_6 hb_f
    refine (same_calls (RdE.zero _)).mono ?_
    rintro r wn ⟨rfl, hf⟩
    have HF := Hd.mk (HF.out.trans hf)
    clear hf
    go_wp2
    go_ret
    exact ⟨rfl, HF.out⟩
  · subst hf0
    have HWE := Hd.mk hwe
    unfold liveB at hbl
    clear hwe
    obtain ⟨ha_0, ha_1, ha_2, ha_3, ha_4, ha_5, ha_6, ha_f⟩ := HA.out.cells7
    obtain ⟨hb_0, hb_1, hb_2, hb_3, hb_4, hb_5, hb_6, hb_f⟩ := HB.out.cells7
    obtain ⟨hw_0, hw_1, hw_2, hw_3, hw_4, hw_5, hw_6, hw_f⟩ := HW.out.cells7
    go_upto_region 13 with (fail)
    refine wp_name ?_; intro w13 hw13
    obtain ⟨hb8, f8⟩ := HW.out.seven hw13
    clear hw13
    clear ha_0 ha_1 ha_2 ha_3 ha_4 ha_5 ha_6 ha_f hb_0 hb_1 hb_2 hb_3 hb_4 hb_5 hb_6 hb_f hw_0 hw_1 hw_2 hw_3 hw_4 hw_5 hw_6 hw_f
    have HF := Hd.mk (HF.out.weak f8 (by simp; exact NHW.out.2.1))
    have HA := Hd.mk (HA.out.fr f8 (by simp; exact Ne.symm HNW.out.1))
    have HB := Hd.mk (HB.out.fr f8 (by simp; exact Ne.symm HNW.out.2.1))
    have HX := Hd.mk (HX.out.fr f8 (by simp; exact Ne.symm HNW.out.2.2))
    have HS := Hd.mk (HS.out.fr f8 (fun k hk => by simp; rintro rfl; exact NHW.out.2.2 hk))
    have HW := Hd.mk hb8
    clear f8 hb8
    have HW := Hd.mk (by rw [HWE.out]; exact HW.out : Blk _ xw 29 [.string want.q.name, .int .u16 want.q.ty, .int .u16 want.q.cl, .slice want.ra want.rn want.rc, .int .i64 want.rcode, .int .i64 want.rank, .int .u64 want.expire])
    obtain ⟨ha_0, ha_1, ha_2, ha_3, ha_4, ha_5, ha_6, ha_f⟩ := HA.out.cells7
    obtain ⟨hb_0, hb_1, hb_2, hb_3, hb_4, hb_5, hb_6, hb_f⟩ := HB.out.cells7
    obtain ⟨hw_0, hw_1, hw_2, hw_3, hw_4, hw_5, hw_6, hw_f⟩ := HW.out.cells7
    go_wp2_with fail
    clear ha_0 ha_1 ha_2 ha_3 ha_4 ha_5 ha_6 ha_f hb_0 hb_1 hb_2 hb_3 hb_4 hb_5 hb_6 hb_f hw_0 hw_1 hw_2 hw_3 hw_4 hw_5 hw_6 hw_f
    refine (lookup_calls HS.out a.q want.expire).mono ?_
    rintro r wn ⟨rfl, hs, hf⟩
    have ht : (lookR s4 a.q want.expire).2 = (zeroEn, false) := by rw [look_told, HW4.out]; show (if liveB want.expire want.expire then _ else _) = _; rw [live_self]; rfl
    have h21 : (lookR s4 a.q want.expire).2.1 = zeroEn := by rw [ht]
    have h22 : (lookR s4 a.q want.expire).2.2 = false := by rw [ht]
    rw [h21, h22]
    clear ht h21 h22
    have HF := Hd.mk (fr_over HF.out HNEW.out hf)
    have HA := Hd.mk (HA.out.fr hf HNX.out.1)
    have HB := Hd.mk (HB.out.fr hf HNX.out.2)
    have HX := Hd.mk (HX.out.fr hf NHX.out.1)
    have HW := Hd.mk (HW.out.fr hf NHW.out.1)
    have HS := Hd.mk hs
    clear hf hs
    unfold zeroEn En.v
    go_upto_region 14 with (fail)
    refine wp_name ?_; intro wxy hwa
    have hfa := alloc_of hwa
    have hba := blk_of (T := 29) (c := [.string ⟨#[]⟩, .int .u16 0, .int .u16 0, .slice none 0 0, .int .i64 0, .int .i64 0, .int .u64 0]) hwa
    clear hwa
    obtain ⟨xy, hxx⟩ : ∃ x, wn.heap.size = x := ⟨_, rfl⟩
    rw [hxx] at hba ⊢
    have NHY : Hd (xy ∉ B.wr ∧ w.heap.size ≤ xy ∧ xy ∉ B.all) := Hd.mk ⟨fun h => by have := HS.out.lt _ (B.wr_all _ h); omega, by have := HF.out.size; omega, fun h => by have := HS.out.lt _ h; omega⟩
    have NHYHA : Hd (xy ≠ xa) := Hd.mk (by have := HA.out.lt; omega)
    have NHYHB : Hd (xy ≠ xb) := Hd.mk (by have := HB.out.lt; omega)
    have NHYHX : Hd (xy ≠ xx) := Hd.mk (by have := HX.out.lt; omega)
    have NHYHW : Hd (xy ≠ xw) := Hd.mk (by have := HW.out.lt; omega)
    have HF := Hd.mk (HF.out.trans hfa)
    have HA := Hd.mk (HA.out.fr hfa (by simp))
    have HB := Hd.mk (HB.out.fr hfa (by simp))
    have HS := Hd.mk (HS.out.fr0 hfa)
    have HX := Hd.mk (HX.out.fr hfa (by simp))
    have HW := Hd.mk (HW.out.fr hfa (by simp))
    have HY := Hd.mk hba
    clear hfa hba hxx

    obtain ⟨hx_0, hx_1, hx_2, hx_3, hx_4, hx_5, hx_6, hx_f⟩ := HX.out.cells7
    obtain ⟨hw_0, hw_1, hw_2, hw_3, hw_4, hw_5, hw_6, hw_f⟩ := HW.out.cells7
    obtain ⟨ha_0, ha_1, ha_2, ha_3, ha_4, ha_5, ha_6, ha_f⟩ := HA.out.cells7
    obtain ⟨hb_0, hb_1, hb_2, hb_3, hb_4, hb_5, hb_6, hb_f⟩ := HB.out.cells7
    go_wp2_with fail
    clear hx_0 hx_1 hx_2 hx_3 hx_4 hx_5 hx_6 hx_f hw_0 hw_1 hw_2 hw_3 hw_4 hw_5 hw_6 hw_f ha_0 ha_1 ha_2 ha_3 ha_4 ha_5 ha_6 ha_f hb_0 hb_1 hb_2 hb_3 hb_4 hb_5 hb_6 hb_f
    refine (same_calls (HRW.out.fr HF.out)).mono ?_
    rintro r wn ⟨rfl, hf⟩
    have HF := Hd.mk (HF.out.trans hf)
    have HA := Hd.mk (HA.out.fr hf (by simp))
    have HB := Hd.mk (HB.out.fr hf (by simp))
    have HS := Hd.mk (HS.out.fr0 hf)
    have HX := Hd.mk (HX.out.fr hf (by simp))
    have HW := Hd.mk (HW.out.fr hf (by simp))
    have HY := Hd.mk (HY.out.fr hf (by simp))
    clear hf
    obtain ⟨hy_0, hy_1, hy_2, hy_3, hy_4, hy_5, hy_6, hy_f⟩ := HY.out.cells7
    obtain ⟨ha_0, ha_1, ha_2, ha_3, ha_4, ha_5, ha_6, ha_f⟩ := HA.out.cells7
    obtain ⟨hb_0, hb_1, hb_2, hb_3, hb_4, hb_5, hb_6, hb_f⟩ := HB.out.cells7
    go_wp2_with fail
    clear hy_0 hy_1 hy_2 hy_3 hy_4 hy_5 hy_6 hy_f ha_0 ha_1 ha_2 ha_3 ha_4 ha_5 ha_6 ha_f hb_0 hb_1 hb_2 hb_3 hb_4 hb_5 hb_6 hb_f
    refine (same_calls (RdE.zero _)).mono ?_
    rintro r wn ⟨rfl, hf⟩
    have HF := Hd.mk (HF.out.trans hf)
    clear hf
    go_wp2
    go_ret
    exact ⟨rfl, HF.out⟩
end Go.Proofs.Ytjfhdffmlnkooaa
