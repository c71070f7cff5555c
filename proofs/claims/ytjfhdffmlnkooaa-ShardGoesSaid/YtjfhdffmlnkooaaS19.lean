import Derived.Test.YtjfhdffmlnkooaaRP
import Derived.Test.YtjfhdffmlnkooaaRH
import Derived.Test.YtjfhdffmlnkooaaRB
namespace Go.Proofs.Ytjfhdffmlnkooaa
open Go Go.RowKit Go.Proofs.MapL PPM Go.Proofs.YtjfhdffmlnkooaaW.PrintWords

attribute [local go_sem high] eqA25
theorem goes_pure {s s1 : SS} {q : Qn} {G : List Qn} (hs : s1.ent q = if q ∈ G then none else s.ent q) :
    (tellE (s1.ent q) 0).2 = ((tellE (s.ent q) 0).2 && !decide (q ∈ G)) ∧ ((tellE (s1.ent q) 0).2 = true → (tellE (s1.ent q) 0).1 = (tellE (s.ent q) 0).1) := by
  rw [hs]
  by_cases h : q ∈ G
  · rw [if_pos h]
    refine ⟨by simp [h, tellE], fun h2 => ?_⟩
    simp [tellE] at h2
  · rw [if_neg h]
    exact ⟨by simp [h], fun _ => rfl⟩
theorem tell_due {s : SS} {q : Qn} {now : Int} (hn : TOk now) (h : ∀ x, s.ent q = some x → x.expire ≤ now) : (tellE (s.ent q) 0).1.expire ≤ now := by
  have h0 := hn.1
  unfold tellE
  cases he : s.ent q with
  | none => exact h0
  | some x =>
    dsimp only
    split
    · exact h x he
    · exact h0
theorem goes_ins {s : SS} (hh : s.hand < s.l.length) (hU : Uq s) (e : En) (now : Int) {q : Qn} (hq : e.q ≠ q) : (insR s e now).1.ent q = if q ∈ (insR s e now).2.1 then none else s.ent q := by
  cases hl : liveB e.expire now with
  | false => rw [ins_dead hl]; simp
  | true =>
    cases ho : s.ent e.q with
    | none =>
      obtain ⟨h2, -, -, he⟩ := ins_new hh hU hl ho
      rw [h2, he, if_neg (Ne.symm hq)]
    | some o =>
      cases hb : beatsB o e now with
      | false => rw [ins_low hl ho hb]; simp
      | true =>
        obtain ⟨h2, -, -, he⟩ := ins_beats hU hl ho hb
        rw [h2, he, if_neg (Ne.symm hq)]
        simp
theorem goes_due {s : SS} (hU : Uq s) (now : Int) (q : Qn) : (dueS s now).ent q = if q ∈ dueQ s now then none else s.ent q := by
  rw [due_ent hU]
  cases he : s.ent q with
  | none => simp
  | some x =>
    by_cases h : now < x.expire
    · rw [if_neg, Option.filter_some, if_pos (decide_eq_true h)]
      intro hm
      obtain ⟨y, hy, hle⟩ := (mem_dueQ hU).1 hm
      rw [he] at hy; cases hy; omega
    · rw [if_pos ((mem_dueQ hU).2 ⟨x, he, by omega⟩), Option.filter_some, if_neg (by simpa using h)]
theorem q_eq2 (a b : Qn) : (a.name.toList == b.name.toList && (a.ty == b.ty && (a.cl == b.cl))) = decide (a = b) := q_eq a b
set_option maxRecDepth 100000 in
set_option maxHeartbeats 16000000 in
theorem goes_law {w : World} {v : Value} {ds : List Dd} (hD : DeedsAt w v ds) (d : Dd) (hd : RdE w d.e ∧ TOk d.now) (q : Qn) : Calls Try.prog 4 #[v, d.v, q.v] w fun r w' => r = .returned (.bool true) ∧ Fr [] w w' := by
  have HRD := Hd.mk hd
  clear hd
  unfold Dd.v Qn.v
  go_enter Try.func4, Try.ntmps4
  go_upto_region 1 with (fail)
  refine wp_name ?_; intro w0 hw0
  have hF0 : Fr [] w w0 := alloc2_of hw0
  have ha0 : Blk w0 w.heap.size 43 [.int .i64 d.kind, .string d.e.q.name, .int .u16 d.e.q.ty, .int .u16 d.e.q.cl, .slice d.e.ra d.e.rn d.e.rc, .int .i64 d.e.rcode, .int .i64 d.e.rank, .int .u64 d.e.expire, .int .u64 d.now] := alloc2_fst hw0
  have hb0 : Blk w0 (w.heap.size + 1) 25 [.string q.name, .int .u16 q.ty, .int .u16 q.cl] := alloc2_snd hw0
  clear hw0
  obtain ⟨xd, hxa⟩ : ∃ x, w.heap.size = x := ⟨_, rfl⟩
  obtain ⟨xq, hxb⟩ : ∃ x, xd + 1 = x := ⟨_, rfl⟩
  have HXW : Hd (w.heap.size ≤ xd ∧ w.heap.size ≤ xq ∧ xd ≠ xq) := Hd.mk (by omega)
  rw [hxa] at ha0 hb0
  rw [hxb] at hb0
  simp only [hxa, hxb]
  have HF := Hd.mk hF0
  have HDB := Hd.mk ha0
  have HQB := Hd.mk hb0
  have HD := Hd.mk (hD.fr hF0)
  clear hF0 ha0 hb0 hxa hxb hD
  go_wp2_with fail
  refine (shown_calls _).mono ?_
  rintro r wr ⟨rfl, hf⟩
  have HF := Hd.mk (HF.out.trans hf)
  have HDB := Hd.mk (HDB.out.fr hf (by simp))
  have HQB := Hd.mk (HQB.out.fr hf (by simp))
  have HD := Hd.mk (HD.out.fr hf)
  clear hf
  go_wp2_with fail
  refine (ran_calls HD.out).mono ?_
  rintro r wn ⟨B, s, rfl, hs, hl4, hh4, hen, hf, hge⟩
  have HXL : Hd (∀ k ∈ B.all, xd < k ∧ xq < k) := Hd.mk fun k hk => by have := hge k hk; have := HDB.out.lt; have := HQB.out.lt; omega
  have HNEW : Hd (∀ k ∈ B.all, w.heap.size ≤ k) := Hd.mk fun k hk => by have := HXL.out k hk; have := HXW.out; omega
  have HNEWR := Hd.mk hge
  have HNX : Hd (xd ∉ B.wr ∧ xq ∉ B.wr) := Hd.mk ⟨fun h => by have := HXL.out _ (B.wr_all _ h); omega, fun h => by have := HXL.out _ (B.wr_all _ h); omega⟩
  have HF := Hd.mk (HF.out.trans hf)
  have HDB := Hd.mk (HDB.out.fr hf (by simp))
  have HQB := Hd.mk (HQB.out.fr hf (by simp))
  have HS := Hd.mk hs
  have HFR := Hd.mk hf
  have HU := Hd.mk hs.uq
  have HEN := Hd.mk hen
  have HH := Hd.mk (hl4.symm ▸ hh4 : s.hand < s.l.length)
  have HL4 := Hd.mk hl4
  clear hf hs hge hl4 hh4 hen
  obtain ⟨hqb_0, hqb_1, hqb_2, hqb_f⟩ := HQB.out.cells3
  go_wp2_with fail
  clear hqb_0 hqb_1 hqb_2 hqb_f
  refine (lookup_calls HS.out q 0).mono ?_
  rintro r wn ⟨rfl, hs, hf⟩
  have h2 := look_told s q 0
  have HRW : Hd (RdE wr (tellE (s.ent q) 0).1) := Hd.mk (by rw [← h2]; exact (HEN.out.look (RdE.zero _) q 0).2)
  rw [show (lookR s q 0).2.1 = (tellE (s.ent q) 0).1 by rw [h2], show (lookR s q 0).2.2 = (tellE (s.ent q) 0).2 by rw [h2]]
  clear h2
  have HF := Hd.mk (fr_over HF.out HNEW.out hf)
  have HDB := Hd.mk (HDB.out.fr hf HNX.out.1)
  have HQB := Hd.mk (HQB.out.fr hf HNX.out.2)
  have HFR := Hd.mk (fr_over HFR.out HNEWR.out hf)
  have HS := Hd.mk hs
  clear hf hs
  have HE0 : Hd (∀ q', (lookR s q 0).1.ent q' = s.ent q') := Hd.mk fun q' => look_ent HU.out q q' 0
  have HU0 := Hd.mk (look_uq HU.out q 0).1
  have HH0 : Hd ((lookR s q 0).1.hand < (lookR s q 0).1.l.length) := Hd.mk (by rw [(look_len s q 0).1, (look_len s q 0).2]; exact HH.out)
  have HL0 : Hd ((lookR s q 0).1.l.length = 4) := Hd.mk (by rw [(look_len s q 0).1]; exact HL4.out)
  obtain ⟨s0, hs0⟩ : ∃ x, (lookR s q 0).1 = x := ⟨_, rfl⟩
  rw [hs0] at HS HE0 HU0 HH0 HL0
  obtain ⟨is, his⟩ : ∃ b, (tellE (s.ent q) 0).2 = b := ⟨_, rfl⟩
  obtain ⟨was, hwas⟩ : ∃ b, (tellE (s.ent q) 0).1 = b := ⟨_, rfl⟩
  have HIS : Hd ((tellE (s0.ent q) 0).2 = is ∧ (tellE (s0.ent q) 0).1 = was) := Hd.mk (by rw [HE0.out]; exact ⟨his, hwas⟩)
  rw [hwas] at HRW
  rw [his, hwas]
  clear hs0 his hwas
  unfold En.v
  go_upto_region 4 with (fail)
  refine wp_name ?_; intro wxx hwa
  have hfa := alloc_of hwa
  have hba := blk_of (T := 29) (c := [.string was.q.name, .int .u16 was.q.ty, .int .u16 was.q.cl, .slice was.ra was.rn was.rc, .int .i64 was.rcode, .int .i64 was.rank, .int .u64 was.expire]) hwa
  clear hwa
  obtain ⟨xx, hxx⟩ : ∃ x, wn.heap.size = x := ⟨_, rfl⟩
  rw [hxx] at hba ⊢
  have NHX : Hd (xx ∉ B.wr ∧ w.heap.size ≤ xx ∧ xx ∉ B.all) := Hd.mk ⟨fun h => by have := HS.out.lt _ (B.wr_all _ h); omega, by have := HF.out.size; omega, fun h => by have := HS.out.lt _ h; omega⟩
  have NHXHDB : Hd (xx ≠ xd) := Hd.mk (by have := HDB.out.lt; omega)
  have NHXHQB : Hd (xx ≠ xq) := Hd.mk (by have := HQB.out.lt; omega)
  have HF := Hd.mk (HF.out.trans hfa)
  have HDB := Hd.mk (HDB.out.fr hfa (by simp))
  have HQB := Hd.mk (HQB.out.fr hfa (by simp))
  have HS := Hd.mk (HS.out.fr0 hfa)
  have HFR := Hd.mk (HFR.out.trans hfa)
  have HX := Hd.mk hba
  clear hfa hba hxx
  by_cases hk : d.kind = 0
  · have hdb := HDB.out
    rw [hk] at hdb
    have HDB := Hd.mk hdb
    clear hk hdb
    obtain ⟨hdb_0, hdb_1, hdb_2, hdb_3, hdb_4, hdb_5, hdb_6, hdb_7, hdb_8⟩ := HDB.out.cells9
    go_wp2_with fail
    clear hdb_0 hdb_1 hdb_2 hdb_3 hdb_4 hdb_5 hdb_6 hdb_7 hdb_8
    refine (shinsert_calls HS.out d.e HRD.out.1.t HRD.out.2).mono ?_
    rintro r wn ⟨v2, rfl, hq, -, hs, hf⟩
    have HF := Hd.mk (fr_over HF.out HNEW.out hf)
    have HDB := Hd.mk (HDB.out.fr hf HNX.out.1)
    have HQB := Hd.mk (HQB.out.fr hf HNX.out.2)
    have HFR := Hd.mk (fr_over HFR.out HNEWR.out hf)
    have HX := Hd.mk (HX.out.fr hf NHX.out.1)
    have HS := Hd.mk hs
    have HG := Hd.mk (own_base hq (Nat.zero_le _))
    clear hf hs hq
    obtain ⟨G, hG⟩ : ∃ l, (insR s0 d.e d.now).2.1 = l := ⟨_, rfl⟩
    have HGL : Hd (G.length < 1000000) := Hd.mk (by rw [← hG]; have := insQ_len s0 d.e d.now; have := HL0.out; omega)
    have HGN : Hd (d.e.q ≠ q → (insR s0 d.e d.now).1.ent q = if q ∈ G then none else s0.ent q) := Hd.mk fun h => by rw [← hG]; exact goes_ins HH0.out HU0.out d.e d.now h
    rw [hG] at HG
    obtain ⟨s1, hs1⟩ : ∃ x, (insR s0 d.e d.now).1 = x := ⟨_, rfl⟩
    rw [hs1] at HS HGN
    clear hs1 hG
    obtain ⟨hqb_0, hqb_1, hqb_2, hqb_f⟩ := HQB.out.cells3
    obtain ⟨hdb_0, hdb_1, hdb_2, hdb_3, hdb_4, hdb_5, hdb_6, hdb_7, hdb_8⟩ := HDB.out.cells9
    go_wp2_with fail
    clear hqb_0 hqb_1 hqb_2 hqb_f hdb_0 hdb_1 hdb_2 hdb_3 hdb_4 hdb_5 hdb_6 hdb_7 hdb_8
    refine (lookup_calls HS.out q 0).mono ?_
    rintro r wn ⟨rfl, hs, hf⟩
    have h2 := look_told s1 q 0
    rw [show (lookR s1 q 0).2.1 = (tellE (s1.ent q) 0).1 by rw [h2], show (lookR s1 q 0).2.2 = (tellE (s1.ent q) 0).2 by rw [h2]]
    clear h2
    have HF := Hd.mk (fr_over HF.out HNEW.out hf)
    have HDB := Hd.mk (HDB.out.fr hf HNX.out.1)
    have HQB := Hd.mk (HQB.out.fr hf HNX.out.2)
    have HFR := Hd.mk (fr_over HFR.out HNEWR.out hf)
    have HX := Hd.mk (HX.out.fr hf NHX.out.1)
    have HG := Hd.mk (row_step HG.out HS.out hf)
    have HS := Hd.mk hs
    clear hf hs
    obtain ⟨th, hth⟩ : ∃ b, (tellE (s1.ent q) 0).2 = b := ⟨_, rfl⟩
    obtain ⟨nw, hnw⟩ : ∃ b, (tellE (s1.ent q) 0).1 = b := ⟨_, rfl⟩
    rw [hth, hnw]
    have HTH := Hd.mk (And.intro hth hnw)
    clear hth hnw
    unfold En.v
    go_upto_region 16 with (fail)
    refine wp_name ?_; intro wxn hwa
    have hfa := alloc_of hwa
    have hba := blk_of (T := 29) (c := [.string nw.q.name, .int .u16 nw.q.ty, .int .u16 nw.q.cl, .slice nw.ra nw.rn nw.rc, .int .i64 nw.rcode, .int .i64 nw.rank, .int .u64 nw.expire]) hwa
    clear hwa
    obtain ⟨xn, hxx⟩ : ∃ x, wn.heap.size = x := ⟨_, rfl⟩
    rw [hxx] at hba ⊢
    have NHN : Hd (xn ∉ B.wr ∧ w.heap.size ≤ xn ∧ xn ∉ B.all) := Hd.mk ⟨fun h => by have := HS.out.lt _ (B.wr_all _ h); omega, by have := HF.out.size; omega, fun h => by have := HS.out.lt _ h; omega⟩
    have NHNHDB : Hd (xn ≠ xd) := Hd.mk (by have := HDB.out.lt; omega)
    have NHNHQB : Hd (xn ≠ xq) := Hd.mk (by have := HQB.out.lt; omega)
    have NHNHX : Hd (xn ≠ xx) := Hd.mk (by have := HX.out.lt; omega)
    have HF := Hd.mk (HF.out.trans hfa)
    have HDB := Hd.mk (HDB.out.fr hfa (by simp))
    have HQB := Hd.mk (HQB.out.fr hfa (by simp))
    have HS := Hd.mk (HS.out.fr0 hfa)
    have HFR := Hd.mk (HFR.out.trans hfa)
    have HX := Hd.mk (HX.out.fr hfa (by simp))
    have HG := Hd.mk (row0 HG.out hfa)
    have HN := Hd.mk hba
    clear hfa hba hxx
    by_cases heq : d.e.q = q
    · have heb : (d.e.q.name.toList == q.name.toList && (d.e.q.ty == q.ty && (d.e.q.cl == q.cl))) = true := by rw [q_eq2]; exact decide_eq_true heq
      obtain ⟨e0, e1, e2, e3, e4, e5, e6, e7, e8⟩ := HDB.out.cells9
      obtain ⟨r0, r1, r2, rf⟩ := HQB.out.cells3
      clear heq
      go_wp2
      go_ret
      exact ⟨rfl, HF.out⟩
    have heb : (d.e.q.name.toList == q.name.toList && (d.e.q.ty == q.ty && (d.e.q.cl == q.cl))) = false := by rw [q_eq2]; exact decide_eq_false heq
    have HGE : Hd (s1.ent q = if q ∈ G then none else s0.ent q) := Hd.mk (HGN.out heq)
    clear heq
    have h1 := goes_pure HGE.out
    rw [HIS.out.1, HIS.out.2, HTH.out.1, HTH.out.2] at h1
    obtain ⟨hg, hhg⟩ : ∃ b, decide (q ∈ G) = b := ⟨_, rfl⟩
    rw [hhg] at h1
    have HHG := Hd.mk hhg
    have HTW := Hd.mk h1.2
    have htt := h1.1
    clear h1 hhg
    cases is with
    | true =>
      cases hg with
      | true =>
        obtain rfl : th = false := htt
        obtain ⟨hdb_0, hdb_1, hdb_2, hdb_3, hdb_4, hdb_5, hdb_6, hdb_7, hdb_8⟩ := HDB.out.cells9
        obtain ⟨hqb_0, hqb_1, hqb_2, hqb_f⟩ := HQB.out.cells3
        obtain ⟨hx_0, hx_1, hx_2, hx_3, hx_4, hx_5, hx_6, hx_f⟩ := HX.out.cells7
        obtain ⟨hn_0, hn_1, hn_2, hn_3, hn_4, hn_5, hn_6, hn_f⟩ := HN.out.cells7
        go_wp2_with fail
        clear hdb_0 hdb_1 hdb_2 hdb_3 hdb_4 hdb_5 hdb_6 hdb_7 hdb_8 hqb_0 hqb_1 hqb_2 hqb_f hx_0 hx_1 hx_2 hx_3 hx_4 hx_5 hx_6 hx_f hn_0 hn_1 hn_2 hn_3 hn_4 hn_5 hn_6 hn_f
        have hh := has_calls HG.out HGL.out q
        rw [HHG.out] at hh
        refine (hh).mono ?_
        rintro r wn ⟨rfl, hf⟩
        have HF := Hd.mk (HF.out.trans hf)
        have HDB := Hd.mk (HDB.out.fr hf (by simp))
        have HQB := Hd.mk (HQB.out.fr hf (by simp))
        have HS := Hd.mk (HS.out.fr0 hf)
        have HFR := Hd.mk (HFR.out.trans hf)
        have HX := Hd.mk (HX.out.fr hf (by simp))
        have HG := Hd.mk (row0 HG.out hf)
        have HN := Hd.mk (HN.out.fr hf (by simp))
        clear hf hh
        obtain ⟨hdb_0, hdb_1, hdb_2, hdb_3, hdb_4, hdb_5, hdb_6, hdb_7, hdb_8⟩ := HDB.out.cells9
        obtain ⟨hqb_0, hqb_1, hqb_2, hqb_f⟩ := HQB.out.cells3
        obtain ⟨hx_0, hx_1, hx_2, hx_3, hx_4, hx_5, hx_6, hx_f⟩ := HX.out.cells7
        obtain ⟨hn_0, hn_1, hn_2, hn_3, hn_4, hn_5, hn_6, hn_f⟩ := HN.out.cells7
        go_wp2
        clear hdb_0 hdb_1 hdb_2 hdb_3 hdb_4 hdb_5 hdb_6 hdb_7 hdb_8 hqb_0 hqb_1 hqb_2 hqb_f hx_0 hx_1 hx_2 hx_3 hx_4 hx_5 hx_6 hx_f hn_0 hn_1 hn_2 hn_3 hn_4 hn_5 hn_6 hn_f
        go_ret
        exact ⟨rfl, HF.out⟩
      | false =>
        obtain rfl : th = true := htt
        obtain rfl : nw = was := HTW.out rfl
        obtain ⟨hdb_0, hdb_1, hdb_2, hdb_3, hdb_4, hdb_5, hdb_6, hdb_7, hdb_8⟩ := HDB.out.cells9
        obtain ⟨hqb_0, hqb_1, hqb_2, hqb_f⟩ := HQB.out.cells3
        obtain ⟨hx_0, hx_1, hx_2, hx_3, hx_4, hx_5, hx_6, hx_f⟩ := HX.out.cells7
        obtain ⟨hn_0, hn_1, hn_2, hn_3, hn_4, hn_5, hn_6, hn_f⟩ := HN.out.cells7
        go_wp2_with fail
        clear hdb_0 hdb_1 hdb_2 hdb_3 hdb_4 hdb_5 hdb_6 hdb_7 hdb_8 hqb_0 hqb_1 hqb_2 hqb_f hx_0 hx_1 hx_2 hx_3 hx_4 hx_5 hx_6 hx_f hn_0 hn_1 hn_2 hn_3 hn_4 hn_5 hn_6 hn_f
        have hh := has_calls HG.out HGL.out q
        rw [HHG.out] at hh
        refine (hh).mono ?_
        rintro r wn ⟨rfl, hf⟩
        have HF := Hd.mk (HF.out.trans hf)
        have HDB := Hd.mk (HDB.out.fr hf (by simp))
        have HQB := Hd.mk (HQB.out.fr hf (by simp))
        have HS := Hd.mk (HS.out.fr0 hf)
        have HFR := Hd.mk (HFR.out.trans hf)
        have HX := Hd.mk (HX.out.fr hf (by simp))
        have HG := Hd.mk (row0 HG.out hf)
        have HN := Hd.mk (HN.out.fr hf (by simp))
        clear hf hh
        obtain ⟨hdb_0, hdb_1, hdb_2, hdb_3, hdb_4, hdb_5, hdb_6, hdb_7, hdb_8⟩ := HDB.out.cells9
        obtain ⟨hqb_0, hqb_1, hqb_2, hqb_f⟩ := HQB.out.cells3
        obtain ⟨hx_0, hx_1, hx_2, hx_3, hx_4, hx_5, hx_6, hx_f⟩ := HX.out.cells7
        obtain ⟨hn_0, hn_1, hn_2, hn_3, hn_4, hn_5, hn_6, hn_f⟩ := HN.out.cells7
        go_wp2_with fail
        clear hdb_0 hdb_1 hdb_2 hdb_3 hdb_4 hdb_5 hdb_6 hdb_7 hdb_8 hqb_0 hqb_1 hqb_2 hqb_f hx_0 hx_1 hx_2 hx_3 hx_4 hx_5 hx_6 hx_f hn_0 hn_1 hn_2 hn_3 hn_4 hn_5 hn_6 hn_f
        refine (same_calls (HRW.out.fr HFR.out)).mono ?_
        rintro r wn ⟨rfl, hf⟩
        have HF := Hd.mk (HF.out.trans hf)
        have HDB := Hd.mk (HDB.out.fr hf (by simp))
        have HQB := Hd.mk (HQB.out.fr hf (by simp))
        have HS := Hd.mk (HS.out.fr0 hf)
        have HFR := Hd.mk (HFR.out.trans hf)
        have HX := Hd.mk (HX.out.fr hf (by simp))
        have HG := Hd.mk (row0 HG.out hf)
        have HN := Hd.mk (HN.out.fr hf (by simp))
        clear hf
        obtain ⟨hdb_0, hdb_1, hdb_2, hdb_3, hdb_4, hdb_5, hdb_6, hdb_7, hdb_8⟩ := HDB.out.cells9
        obtain ⟨hqb_0, hqb_1, hqb_2, hqb_f⟩ := HQB.out.cells3
        obtain ⟨hx_0, hx_1, hx_2, hx_3, hx_4, hx_5, hx_6, hx_f⟩ := HX.out.cells7
        obtain ⟨hn_0, hn_1, hn_2, hn_3, hn_4, hn_5, hn_6, hn_f⟩ := HN.out.cells7
        go_wp2
        clear hdb_0 hdb_1 hdb_2 hdb_3 hdb_4 hdb_5 hdb_6 hdb_7 hdb_8 hqb_0 hqb_1 hqb_2 hqb_f hx_0 hx_1 hx_2 hx_3 hx_4 hx_5 hx_6 hx_f hn_0 hn_1 hn_2 hn_3 hn_4 hn_5 hn_6 hn_f
        go_ret
        exact ⟨rfl, HF.out⟩
    | false =>
      cases hg with
      | true =>
        obtain rfl : th = false := htt
        obtain ⟨hdb_0, hdb_1, hdb_2, hdb_3, hdb_4, hdb_5, hdb_6, hdb_7, hdb_8⟩ := HDB.out.cells9
        obtain ⟨hqb_0, hqb_1, hqb_2, hqb_f⟩ := HQB.out.cells3
        obtain ⟨hx_0, hx_1, hx_2, hx_3, hx_4, hx_5, hx_6, hx_f⟩ := HX.out.cells7
        obtain ⟨hn_0, hn_1, hn_2, hn_3, hn_4, hn_5, hn_6, hn_f⟩ := HN.out.cells7
        go_wp2
        clear hdb_0 hdb_1 hdb_2 hdb_3 hdb_4 hdb_5 hdb_6 hdb_7 hdb_8 hqb_0 hqb_1 hqb_2 hqb_f hx_0 hx_1 hx_2 hx_3 hx_4 hx_5 hx_6 hx_f hn_0 hn_1 hn_2 hn_3 hn_4 hn_5 hn_6 hn_f
        go_ret
        exact ⟨rfl, HF.out⟩
      | false =>
        obtain rfl : th = false := htt
        obtain ⟨hdb_0, hdb_1, hdb_2, hdb_3, hdb_4, hdb_5, hdb_6, hdb_7, hdb_8⟩ := HDB.out.cells9
        obtain ⟨hqb_0, hqb_1, hqb_2, hqb_f⟩ := HQB.out.cells3
        obtain ⟨hx_0, hx_1, hx_2, hx_3, hx_4, hx_5, hx_6, hx_f⟩ := HX.out.cells7
        obtain ⟨hn_0, hn_1, hn_2, hn_3, hn_4, hn_5, hn_6, hn_f⟩ := HN.out.cells7
        go_wp2
        clear hdb_0 hdb_1 hdb_2 hdb_3 hdb_4 hdb_5 hdb_6 hdb_7 hdb_8 hqb_0 hqb_1 hqb_2 hqb_f hx_0 hx_1 hx_2 hx_3 hx_4 hx_5 hx_6 hx_f hn_0 hn_1 hn_2 hn_3 hn_4 hn_5 hn_6 hn_f
        go_ret
        exact ⟨rfl, HF.out⟩
  by_cases hk1 : d.kind = 1
  · have hk := hk1
    clear hk1
    have hdb := HDB.out
    rw [hk] at hdb
    have HDB := Hd.mk hdb
    clear hk hdb
    obtain ⟨hdb_0, hdb_1, hdb_2, hdb_3, hdb_4, hdb_5, hdb_6, hdb_7, hdb_8⟩ := HDB.out.cells9
    go_wp2_with fail
    clear hdb_0 hdb_1 hdb_2 hdb_3 hdb_4 hdb_5 hdb_6 hdb_7 hdb_8
    refine (lookup_calls HS.out d.e.q d.now).mono ?_
    rintro r wn ⟨rfl, hs, hf⟩
    have HF := Hd.mk (fr_over HF.out HNEW.out hf)
    have HDB := Hd.mk (HDB.out.fr hf HNX.out.1)
    have HQB := Hd.mk (HQB.out.fr hf HNX.out.2)
    have HFR := Hd.mk (fr_over HFR.out HNEWR.out hf)
    have HX := Hd.mk (HX.out.fr hf NHX.out.1)
    have HS := Hd.mk hs
    clear hf hs
    have HG : Hd (QRow wn 0 (.slice none 0 0) ([] : List Qn)) := Hd.mk (World.ownsRow_nil _ _ _ _)
    obtain ⟨G, hG⟩ : ∃ l : List Qn, l = [] := ⟨_, rfl⟩
    rw [← hG] at HG
    have HGL : Hd (G.length < 1000000) := Hd.mk (by rw [hG]; decide)
    have HGE : Hd ((lookR s0 d.e.q d.now).1.ent q = if q ∈ G then none else s0.ent q) := Hd.mk (by rw [hG, look_ent HU0.out]; simp)
    have HG3 : Hd (q ∈ G → was.expire ≤ d.now) := Hd.mk (by rw [hG]; intro h; cases h)
    obtain ⟨s1, hs1⟩ : ∃ x, (lookR s0 d.e.q d.now).1 = x := ⟨_, rfl⟩
    rw [hs1] at HS HGE
    clear hs1 hG
    obtain ⟨hqb_0, hqb_1, hqb_2, hqb_f⟩ := HQB.out.cells3
    obtain ⟨hdb_0, hdb_1, hdb_2, hdb_3, hdb_4, hdb_5, hdb_6, hdb_7, hdb_8⟩ := HDB.out.cells9
    go_wp2_with fail
    clear hqb_0 hqb_1 hqb_2 hqb_f hdb_0 hdb_1 hdb_2 hdb_3 hdb_4 hdb_5 hdb_6 hdb_7 hdb_8
    refine (lookup_calls HS.out q 0).mono ?_
    rintro r wn ⟨rfl, hs, hf⟩
    have h2 := look_told s1 q 0
    rw [show (lookR s1 q 0).2.1 = (tellE (s1.ent q) 0).1 by rw [h2], show (lookR s1 q 0).2.2 = (tellE (s1.ent q) 0).2 by rw [h2]]
    clear h2
    have HF := Hd.mk (fr_over HF.out HNEW.out hf)
    have HDB := Hd.mk (HDB.out.fr hf HNX.out.1)
    have HQB := Hd.mk (HQB.out.fr hf HNX.out.2)
    have HFR := Hd.mk (fr_over HFR.out HNEWR.out hf)
    have HX := Hd.mk (HX.out.fr hf NHX.out.1)
    have HG := Hd.mk (row_step HG.out HS.out hf)
    have HS := Hd.mk hs
    clear hf hs
    obtain ⟨th, hth⟩ : ∃ b, (tellE (s1.ent q) 0).2 = b := ⟨_, rfl⟩
    obtain ⟨nw, hnw⟩ : ∃ b, (tellE (s1.ent q) 0).1 = b := ⟨_, rfl⟩
    rw [hth, hnw]
    have HTH := Hd.mk (And.intro hth hnw)
    clear hth hnw
    unfold En.v
    go_upto_region 16 with (fail)
    refine wp_name ?_; intro wxn hwa
    have hfa := alloc_of hwa
    have hba := blk_of (T := 29) (c := [.string nw.q.name, .int .u16 nw.q.ty, .int .u16 nw.q.cl, .slice nw.ra nw.rn nw.rc, .int .i64 nw.rcode, .int .i64 nw.rank, .int .u64 nw.expire]) hwa
    clear hwa
    obtain ⟨xn, hxx⟩ : ∃ x, wn.heap.size = x := ⟨_, rfl⟩
    rw [hxx] at hba ⊢
    have NHN : Hd (xn ∉ B.wr ∧ w.heap.size ≤ xn ∧ xn ∉ B.all) := Hd.mk ⟨fun h => by have := HS.out.lt _ (B.wr_all _ h); omega, by have := HF.out.size; omega, fun h => by have := HS.out.lt _ h; omega⟩
    have NHNHDB : Hd (xn ≠ xd) := Hd.mk (by have := HDB.out.lt; omega)
    have NHNHQB : Hd (xn ≠ xq) := Hd.mk (by have := HQB.out.lt; omega)
    have NHNHX : Hd (xn ≠ xx) := Hd.mk (by have := HX.out.lt; omega)
    have HF := Hd.mk (HF.out.trans hfa)
    have HDB := Hd.mk (HDB.out.fr hfa (by simp))
    have HQB := Hd.mk (HQB.out.fr hfa (by simp))
    have HS := Hd.mk (HS.out.fr0 hfa)
    have HFR := Hd.mk (HFR.out.trans hfa)
    have HX := Hd.mk (HX.out.fr hfa (by simp))
    have HG := Hd.mk (row0 HG.out hfa)
    have HN := Hd.mk hba
    clear hfa hba hxx
    have h1 := goes_pure HGE.out
    rw [HIS.out.1, HIS.out.2, HTH.out.1, HTH.out.2] at h1
    obtain ⟨hg, hhg⟩ : ∃ b, decide (q ∈ G) = b := ⟨_, rfl⟩
    rw [hhg] at h1
    have HHG := Hd.mk hhg
    have HTW := Hd.mk h1.2
    have htt := h1.1
    clear h1 hhg
    cases is with
    | true =>
      cases hg with
      | true =>
        obtain rfl : th = false := htt
        obtain ⟨hdb_0, hdb_1, hdb_2, hdb_3, hdb_4, hdb_5, hdb_6, hdb_7, hdb_8⟩ := HDB.out.cells9
        obtain ⟨hqb_0, hqb_1, hqb_2, hqb_f⟩ := HQB.out.cells3
        obtain ⟨hx_0, hx_1, hx_2, hx_3, hx_4, hx_5, hx_6, hx_f⟩ := HX.out.cells7
        obtain ⟨hn_0, hn_1, hn_2, hn_3, hn_4, hn_5, hn_6, hn_f⟩ := HN.out.cells7
        go_wp2_with fail
        clear hdb_0 hdb_1 hdb_2 hdb_3 hdb_4 hdb_5 hdb_6 hdb_7 hdb_8 hqb_0 hqb_1 hqb_2 hqb_f hx_0 hx_1 hx_2 hx_3 hx_4 hx_5 hx_6 hx_f hn_0 hn_1 hn_2 hn_3 hn_4 hn_5 hn_6 hn_f
        have hh := has_calls HG.out HGL.out q
        rw [HHG.out] at hh
        refine (hh).mono ?_
        rintro r wn ⟨rfl, hf⟩
        have HF := Hd.mk (HF.out.trans hf)
        have HDB := Hd.mk (HDB.out.fr hf (by simp))
        have HQB := Hd.mk (HQB.out.fr hf (by simp))
        have HS := Hd.mk (HS.out.fr0 hf)
        have HFR := Hd.mk (HFR.out.trans hf)
        have HX := Hd.mk (HX.out.fr hf (by simp))
        have HG := Hd.mk (row0 HG.out hf)
        have HN := Hd.mk (HN.out.fr hf (by simp))
        clear hf hh
        obtain ⟨hdb_0, hdb_1, hdb_2, hdb_3, hdb_4, hdb_5, hdb_6, hdb_7, hdb_8⟩ := HDB.out.cells9
        obtain ⟨hqb_0, hqb_1, hqb_2, hqb_f⟩ := HQB.out.cells3
        obtain ⟨hx_0, hx_1, hx_2, hx_3, hx_4, hx_5, hx_6, hx_f⟩ := HX.out.cells7
        obtain ⟨hn_0, hn_1, hn_2, hn_3, hn_4, hn_5, hn_6, hn_f⟩ := HN.out.cells7
        go_wp2_with fail
        clear hdb_0 hdb_1 hdb_2 hdb_3 hdb_4 hdb_5 hdb_6 hdb_7 hdb_8 hqb_0 hqb_1 hqb_2 hqb_f hx_0 hx_1 hx_2 hx_3 hx_4 hx_5 hx_6 hx_f hn_0 hn_1 hn_2 hn_3 hn_4 hn_5 hn_6 hn_f
        have hh := has_calls HG.out HGL.out q
        rw [HHG.out] at hh
        refine (hh).mono ?_
        rintro r wn ⟨rfl, hf⟩
        have HF := Hd.mk (HF.out.trans hf)
        have HDB := Hd.mk (HDB.out.fr hf (by simp))
        have HQB := Hd.mk (HQB.out.fr hf (by simp))
        have HS := Hd.mk (HS.out.fr0 hf)
        have HFR := Hd.mk (HFR.out.trans hf)
        have HX := Hd.mk (HX.out.fr hf (by simp))
        have HG := Hd.mk (row0 HG.out hf)
        have HN := Hd.mk (HN.out.fr hf (by simp))
        clear hf hh
        have hle : decide (was.expire ≤ d.now) = true := decide_eq_true (HG3.out (of_decide_eq_true HHG.out))
        obtain ⟨hdb_0, hdb_1, hdb_2, hdb_3, hdb_4, hdb_5, hdb_6, hdb_7, hdb_8⟩ := HDB.out.cells9
        obtain ⟨hqb_0, hqb_1, hqb_2, hqb_f⟩ := HQB.out.cells3
        obtain ⟨hx_0, hx_1, hx_2, hx_3, hx_4, hx_5, hx_6, hx_f⟩ := HX.out.cells7
        obtain ⟨hn_0, hn_1, hn_2, hn_3, hn_4, hn_5, hn_6, hn_f⟩ := HN.out.cells7
        go_wp2
        clear hdb_0 hdb_1 hdb_2 hdb_3 hdb_4 hdb_5 hdb_6 hdb_7 hdb_8 hqb_0 hqb_1 hqb_2 hqb_f hx_0 hx_1 hx_2 hx_3 hx_4 hx_5 hx_6 hx_f hn_0 hn_1 hn_2 hn_3 hn_4 hn_5 hn_6 hn_f
        go_ret
        exact ⟨rfl, HF.out⟩
      | false =>
        obtain rfl : th = true := htt
        obtain rfl : nw = was := HTW.out rfl
        obtain ⟨hdb_0, hdb_1, hdb_2, hdb_3, hdb_4, hdb_5, hdb_6, hdb_7, hdb_8⟩ := HDB.out.cells9
        obtain ⟨hqb_0, hqb_1, hqb_2, hqb_f⟩ := HQB.out.cells3
        obtain ⟨hx_0, hx_1, hx_2, hx_3, hx_4, hx_5, hx_6, hx_f⟩ := HX.out.cells7
        obtain ⟨hn_0, hn_1, hn_2, hn_3, hn_4, hn_5, hn_6, hn_f⟩ := HN.out.cells7
        go_wp2_with fail
        clear hdb_0 hdb_1 hdb_2 hdb_3 hdb_4 hdb_5 hdb_6 hdb_7 hdb_8 hqb_0 hqb_1 hqb_2 hqb_f hx_0 hx_1 hx_2 hx_3 hx_4 hx_5 hx_6 hx_f hn_0 hn_1 hn_2 hn_3 hn_4 hn_5 hn_6 hn_f
        have hh := has_calls HG.out HGL.out q
        rw [HHG.out] at hh
        refine (hh).mono ?_
        rintro r wn ⟨rfl, hf⟩
        have HF := Hd.mk (HF.out.trans hf)
        have HDB := Hd.mk (HDB.out.fr hf (by simp))
        have HQB := Hd.mk (HQB.out.fr hf (by simp))
        have HS := Hd.mk (HS.out.fr0 hf)
        have HFR := Hd.mk (HFR.out.trans hf)
        have HX := Hd.mk (HX.out.fr hf (by simp))
        have HG := Hd.mk (row0 HG.out hf)
        have HN := Hd.mk (HN.out.fr hf (by simp))
        clear hf hh
        obtain ⟨hdb_0, hdb_1, hdb_2, hdb_3, hdb_4, hdb_5, hdb_6, hdb_7, hdb_8⟩ := HDB.out.cells9
        obtain ⟨hqb_0, hqb_1, hqb_2, hqb_f⟩ := HQB.out.cells3
        obtain ⟨hx_0, hx_1, hx_2, hx_3, hx_4, hx_5, hx_6, hx_f⟩ := HX.out.cells7
        obtain ⟨hn_0, hn_1, hn_2, hn_3, hn_4, hn_5, hn_6, hn_f⟩ := HN.out.cells7
        go_wp2_with fail
        clear hdb_0 hdb_1 hdb_2 hdb_3 hdb_4 hdb_5 hdb_6 hdb_7 hdb_8 hqb_0 hqb_1 hqb_2 hqb_f hx_0 hx_1 hx_2 hx_3 hx_4 hx_5 hx_6 hx_f hn_0 hn_1 hn_2 hn_3 hn_4 hn_5 hn_6 hn_f
        refine (same_calls (HRW.out.fr HFR.out)).mono ?_
        rintro r wn ⟨rfl, hf⟩
        have HF := Hd.mk (HF.out.trans hf)
        have HDB := Hd.mk (HDB.out.fr hf (by simp))
        have HQB := Hd.mk (HQB.out.fr hf (by simp))
        have HS := Hd.mk (HS.out.fr0 hf)
        have HFR := Hd.mk (HFR.out.trans hf)
        have HX := Hd.mk (HX.out.fr hf (by simp))
        have HG := Hd.mk (row0 HG.out hf)
        have HN := Hd.mk (HN.out.fr hf (by simp))
        clear hf
        obtain ⟨hdb_0, hdb_1, hdb_2, hdb_3, hdb_4, hdb_5, hdb_6, hdb_7, hdb_8⟩ := HDB.out.cells9
        obtain ⟨hqb_0, hqb_1, hqb_2, hqb_f⟩ := HQB.out.cells3
        obtain ⟨hx_0, hx_1, hx_2, hx_3, hx_4, hx_5, hx_6, hx_f⟩ := HX.out.cells7
        obtain ⟨hn_0, hn_1, hn_2, hn_3, hn_4, hn_5, hn_6, hn_f⟩ := HN.out.cells7
        go_wp2_with fail
        clear hdb_0 hdb_1 hdb_2 hdb_3 hdb_4 hdb_5 hdb_6 hdb_7 hdb_8 hqb_0 hqb_1 hqb_2 hqb_f hx_0 hx_1 hx_2 hx_3 hx_4 hx_5 hx_6 hx_f hn_0 hn_1 hn_2 hn_3 hn_4 hn_5 hn_6 hn_f
        have hh := has_calls HG.out HGL.out q
        rw [HHG.out] at hh
        refine (hh).mono ?_
        rintro r wn ⟨rfl, hf⟩
        have HF := Hd.mk (HF.out.trans hf)
        have HDB := Hd.mk (HDB.out.fr hf (by simp))
        have HQB := Hd.mk (HQB.out.fr hf (by simp))
        have HS := Hd.mk (HS.out.fr0 hf)
        have HFR := Hd.mk (HFR.out.trans hf)
        have HX := Hd.mk (HX.out.fr hf (by simp))
        have HG := Hd.mk (row0 HG.out hf)
        have HN := Hd.mk (HN.out.fr hf (by simp))
        clear hf hh
        obtain ⟨hdb_0, hdb_1, hdb_2, hdb_3, hdb_4, hdb_5, hdb_6, hdb_7, hdb_8⟩ := HDB.out.cells9
        obtain ⟨hqb_0, hqb_1, hqb_2, hqb_f⟩ := HQB.out.cells3
        obtain ⟨hx_0, hx_1, hx_2, hx_3, hx_4, hx_5, hx_6, hx_f⟩ := HX.out.cells7
        obtain ⟨hn_0, hn_1, hn_2, hn_3, hn_4, hn_5, hn_6, hn_f⟩ := HN.out.cells7
        go_wp2
        clear hdb_0 hdb_1 hdb_2 hdb_3 hdb_4 hdb_5 hdb_6 hdb_7 hdb_8 hqb_0 hqb_1 hqb_2 hqb_f hx_0 hx_1 hx_2 hx_3 hx_4 hx_5 hx_6 hx_f hn_0 hn_1 hn_2 hn_3 hn_4 hn_5 hn_6 hn_f
        go_ret
        exact ⟨rfl, HF.out⟩
    | false =>
      cases hg with
      | true =>
        obtain rfl : th = false := htt
        obtain ⟨hdb_0, hdb_1, hdb_2, hdb_3, hdb_4, hdb_5, hdb_6, hdb_7, hdb_8⟩ := HDB.out.cells9
        obtain ⟨hqb_0, hqb_1, hqb_2, hqb_f⟩ := HQB.out.cells3
        obtain ⟨hx_0, hx_1, hx_2, hx_3, hx_4, hx_5, hx_6, hx_f⟩ := HX.out.cells7
        obtain ⟨hn_0, hn_1, hn_2, hn_3, hn_4, hn_5, hn_6, hn_f⟩ := HN.out.cells7
        go_wp2_with fail
        clear hdb_0 hdb_1 hdb_2 hdb_3 hdb_4 hdb_5 hdb_6 hdb_7 hdb_8 hqb_0 hqb_1 hqb_2 hqb_f hx_0 hx_1 hx_2 hx_3 hx_4 hx_5 hx_6 hx_f hn_0 hn_1 hn_2 hn_3 hn_4 hn_5 hn_6 hn_f
        have hh := has_calls HG.out HGL.out q
        rw [HHG.out] at hh
        refine (hh).mono ?_
        rintro r wn ⟨rfl, hf⟩
        have HF := Hd.mk (HF.out.trans hf)
        have HDB := Hd.mk (HDB.out.fr hf (by simp))
        have HQB := Hd.mk (HQB.out.fr hf (by simp))
        have HS := Hd.mk (HS.out.fr0 hf)
        have HFR := Hd.mk (HFR.out.trans hf)
        have HX := Hd.mk (HX.out.fr hf (by simp))
        have HG := Hd.mk (row0 HG.out hf)
        have HN := Hd.mk (HN.out.fr hf (by simp))
        clear hf hh
        have hle : decide (was.expire ≤ d.now) = true := decide_eq_true (HG3.out (of_decide_eq_true HHG.out))
        obtain ⟨hdb_0, hdb_1, hdb_2, hdb_3, hdb_4, hdb_5, hdb_6, hdb_7, hdb_8⟩ := HDB.out.cells9
        obtain ⟨hqb_0, hqb_1, hqb_2, hqb_f⟩ := HQB.out.cells3
        obtain ⟨hx_0, hx_1, hx_2, hx_3, hx_4, hx_5, hx_6, hx_f⟩ := HX.out.cells7
        obtain ⟨hn_0, hn_1, hn_2, hn_3, hn_4, hn_5, hn_6, hn_f⟩ := HN.out.cells7
        go_wp2
        clear hdb_0 hdb_1 hdb_2 hdb_3 hdb_4 hdb_5 hdb_6 hdb_7 hdb_8 hqb_0 hqb_1 hqb_2 hqb_f hx_0 hx_1 hx_2 hx_3 hx_4 hx_5 hx_6 hx_f hn_0 hn_1 hn_2 hn_3 hn_4 hn_5 hn_6 hn_f
        go_ret
        exact ⟨rfl, HF.out⟩
      | false =>
        obtain rfl : th = false := htt
        obtain ⟨hdb_0, hdb_1, hdb_2, hdb_3, hdb_4, hdb_5, hdb_6, hdb_7, hdb_8⟩ := HDB.out.cells9
        obtain ⟨hqb_0, hqb_1, hqb_2, hqb_f⟩ := HQB.out.cells3
        obtain ⟨hx_0, hx_1, hx_2, hx_3, hx_4, hx_5, hx_6, hx_f⟩ := HX.out.cells7
        obtain ⟨hn_0, hn_1, hn_2, hn_3, hn_4, hn_5, hn_6, hn_f⟩ := HN.out.cells7
        go_wp2_with fail
        clear hdb_0 hdb_1 hdb_2 hdb_3 hdb_4 hdb_5 hdb_6 hdb_7 hdb_8 hqb_0 hqb_1 hqb_2 hqb_f hx_0 hx_1 hx_2 hx_3 hx_4 hx_5 hx_6 hx_f hn_0 hn_1 hn_2 hn_3 hn_4 hn_5 hn_6 hn_f
        have hh := has_calls HG.out HGL.out q
        rw [HHG.out] at hh
        refine (hh).mono ?_
        rintro r wn ⟨rfl, hf⟩
        have HF := Hd.mk (HF.out.trans hf)
        have HDB := Hd.mk (HDB.out.fr hf (by simp))
        have HQB := Hd.mk (HQB.out.fr hf (by simp))
        have HS := Hd.mk (HS.out.fr0 hf)
        have HFR := Hd.mk (HFR.out.trans hf)
        have HX := Hd.mk (HX.out.fr hf (by simp))
        have HG := Hd.mk (row0 HG.out hf)
        have HN := Hd.mk (HN.out.fr hf (by simp))
        clear hf hh
        obtain ⟨hdb_0, hdb_1, hdb_2, hdb_3, hdb_4, hdb_5, hdb_6, hdb_7, hdb_8⟩ := HDB.out.cells9
        obtain ⟨hqb_0, hqb_1, hqb_2, hqb_f⟩ := HQB.out.cells3
        obtain ⟨hx_0, hx_1, hx_2, hx_3, hx_4, hx_5, hx_6, hx_f⟩ := HX.out.cells7
        obtain ⟨hn_0, hn_1, hn_2, hn_3, hn_4, hn_5, hn_6, hn_f⟩ := HN.out.cells7
        go_wp2
        clear hdb_0 hdb_1 hdb_2 hdb_3 hdb_4 hdb_5 hdb_6 hdb_7 hdb_8 hqb_0 hqb_1 hqb_2 hqb_f hx_0 hx_1 hx_2 hx_3 hx_4 hx_5 hx_6 hx_f hn_0 hn_1 hn_2 hn_3 hn_4 hn_5 hn_6 hn_f
        go_ret
        exact ⟨rfl, HF.out⟩
  by_cases hk2 : d.kind = 2
  · have hk := hk2
    clear hk2
    have hdb := HDB.out
    rw [hk] at hdb
    have HDB := Hd.mk hdb
    clear hk hdb
    obtain ⟨hdb_0, hdb_1, hdb_2, hdb_3, hdb_4, hdb_5, hdb_6, hdb_7, hdb_8⟩ := HDB.out.cells9
    go_wp2_with fail
    clear hdb_0 hdb_1 hdb_2 hdb_3 hdb_4 hdb_5 hdb_6 hdb_7 hdb_8
    refine (evict_calls HS.out d.e.q).mono ?_
    rintro r wn ⟨rfl, hs, hf⟩
    have HF := Hd.mk (fr_over HF.out HNEW.out hf)
    have HDB := Hd.mk (HDB.out.fr hf HNX.out.1)
    have HQB := Hd.mk (HQB.out.fr hf HNX.out.2)
    have HFR := Hd.mk (fr_over HFR.out HNEWR.out hf)
    have HX := Hd.mk (HX.out.fr hf NHX.out.1)
    have HS := Hd.mk hs
    clear hf hs
    have HEV : Hd ((evictS s0 d.e.q).ent q = if q = d.e.q then none else s0.ent q) := Hd.mk (evict_ent HU0.out d.e.q q)
    obtain ⟨s1, hs1⟩ : ∃ x, evictS s0 d.e.q = x := ⟨_, rfl⟩
    rw [hs1] at HS HEV
    rw [ent_find]
    clear hs1
    obtain ⟨fb, hfb⟩ : ∃ b, (s0.ent d.e.q).isSome = b := ⟨_, rfl⟩
    have HFB := Hd.mk hfb
    rw [hfb]
    clear hfb
    cases fb with
    | true =>
      obtain ⟨hdb_0, hdb_1, hdb_2, hdb_3, hdb_4, hdb_5, hdb_6, hdb_7, hdb_8⟩ := HDB.out.cells9
      go_upto_region 15 with (fail)
      clear hdb_0 hdb_1 hdb_2 hdb_3 hdb_4 hdb_5 hdb_6 hdb_7 hdb_8
      refine wp_name ?_; intro wxg hwa
      have hfa := alloc_of hwa
      have hba := blk_of (T := 25) (c := [.string d.e.q.name, .int .u16 d.e.q.ty, .int .u16 d.e.q.cl]) hwa
      clear hwa
      obtain ⟨xg, hxx⟩ : ∃ x, wn.heap.size = x := ⟨_, rfl⟩
      rw [hxx] at hba ⊢
      have NHGB : Hd (xg ∉ B.wr ∧ w.heap.size ≤ xg ∧ xg ∉ B.all) := Hd.mk ⟨fun h => by have := HS.out.lt _ (B.wr_all _ h); omega, by have := HF.out.size; omega, fun h => by have := HS.out.lt _ h; omega⟩
      have NHGBHDB : Hd (xg ≠ xd) := Hd.mk (by have := HDB.out.lt; omega)
      have NHGBHQB : Hd (xg ≠ xq) := Hd.mk (by have := HQB.out.lt; omega)
      have NHGBHX : Hd (xg ≠ xx) := Hd.mk (by have := HX.out.lt; omega)
      have HF := Hd.mk (HF.out.trans hfa)
      have HDB := Hd.mk (HDB.out.fr hfa (by simp))
      have HQB := Hd.mk (HQB.out.fr hfa (by simp))
      have HS := Hd.mk (HS.out.fr0 hfa)
      have HFR := Hd.mk (HFR.out.trans hfa)
      have HX := Hd.mk (HX.out.fr hfa (by simp))
      have HGB := Hd.mk hba
      clear hfa hba hxx
      have HG : Hd (QRow wxg 0 (.slice (some ⟨xg, 0, none⟩) 1 1) [d.e.q]) := Hd.mk (own_of_blk (n := 1) HGB.out (Nat.zero_le _) rfl (by decide))
      have HGL : Hd ([d.e.q].length < 1000000) := Hd.mk (by simp)
      have HGE : Hd (s1.ent q = if q ∈ [d.e.q] then none else s0.ent q) := Hd.mk (by rw [HEV.out]; simp)
      obtain ⟨G, hG⟩ : ∃ l, [d.e.q] = l := ⟨_, rfl⟩
      rw [hG] at HG HGL HGE
      clear hG
      obtain ⟨hqb_0, hqb_1, hqb_2, hqb_f⟩ := HQB.out.cells3
      obtain ⟨hdb_0, hdb_1, hdb_2, hdb_3, hdb_4, hdb_5, hdb_6, hdb_7, hdb_8⟩ := HDB.out.cells9
      go_wp2_with fail
      clear hqb_0 hqb_1 hqb_2 hqb_f hdb_0 hdb_1 hdb_2 hdb_3 hdb_4 hdb_5 hdb_6 hdb_7 hdb_8
      refine (lookup_calls HS.out q 0).mono ?_
      rintro r wn ⟨rfl, hs, hf⟩
      have h2 := look_told s1 q 0
      rw [show (lookR s1 q 0).2.1 = (tellE (s1.ent q) 0).1 by rw [h2], show (lookR s1 q 0).2.2 = (tellE (s1.ent q) 0).2 by rw [h2]]
      clear h2
      have HF := Hd.mk (fr_over HF.out HNEW.out hf)
      have HDB := Hd.mk (HDB.out.fr hf HNX.out.1)
      have HQB := Hd.mk (HQB.out.fr hf HNX.out.2)
      have HFR := Hd.mk (fr_over HFR.out HNEWR.out hf)
      have HX := Hd.mk (HX.out.fr hf NHX.out.1)
      have HG := Hd.mk (row_step HG.out HS.out hf)
      have HS := Hd.mk hs
      clear hf hs
      obtain ⟨th, hth⟩ : ∃ b, (tellE (s1.ent q) 0).2 = b := ⟨_, rfl⟩
      obtain ⟨nw, hnw⟩ : ∃ b, (tellE (s1.ent q) 0).1 = b := ⟨_, rfl⟩
      rw [hth, hnw]
      have HTH := Hd.mk (And.intro hth hnw)
      clear hth hnw
      unfold En.v
      go_upto_region 16 with (fail)
      refine wp_name ?_; intro wxn hwa
      have hfa := alloc_of hwa
      have hba := blk_of (T := 29) (c := [.string nw.q.name, .int .u16 nw.q.ty, .int .u16 nw.q.cl, .slice nw.ra nw.rn nw.rc, .int .i64 nw.rcode, .int .i64 nw.rank, .int .u64 nw.expire]) hwa
      clear hwa
      obtain ⟨xn, hxx⟩ : ∃ x, wn.heap.size = x := ⟨_, rfl⟩
      rw [hxx] at hba ⊢
      have NHN : Hd (xn ∉ B.wr ∧ w.heap.size ≤ xn ∧ xn ∉ B.all) := Hd.mk ⟨fun h => by have := HS.out.lt _ (B.wr_all _ h); omega, by have := HF.out.size; omega, fun h => by have := HS.out.lt _ h; omega⟩
      have NHNHDB : Hd (xn ≠ xd) := Hd.mk (by have := HDB.out.lt; omega)
      have NHNHQB : Hd (xn ≠ xq) := Hd.mk (by have := HQB.out.lt; omega)
      have NHNHX : Hd (xn ≠ xx) := Hd.mk (by have := HX.out.lt; omega)
      have HF := Hd.mk (HF.out.trans hfa)
      have HDB := Hd.mk (HDB.out.fr hfa (by simp))
      have HQB := Hd.mk (HQB.out.fr hfa (by simp))
      have HS := Hd.mk (HS.out.fr0 hfa)
      have HFR := Hd.mk (HFR.out.trans hfa)
      have HX := Hd.mk (HX.out.fr hfa (by simp))
      have HG := Hd.mk (row0 HG.out hfa)
      have HN := Hd.mk hba
      clear hfa hba hxx
      have h1 := goes_pure HGE.out
      rw [HIS.out.1, HIS.out.2, HTH.out.1, HTH.out.2] at h1
      obtain ⟨hg, hhg⟩ : ∃ b, decide (q ∈ G) = b := ⟨_, rfl⟩
      rw [hhg] at h1
      have HHG := Hd.mk hhg
      have HTW := Hd.mk h1.2
      have htt := h1.1
      clear h1 hhg
      cases is with
      | true =>
        cases hg with
        | true =>
          obtain rfl : th = false := htt
          obtain ⟨hdb_0, hdb_1, hdb_2, hdb_3, hdb_4, hdb_5, hdb_6, hdb_7, hdb_8⟩ := HDB.out.cells9
          obtain ⟨hqb_0, hqb_1, hqb_2, hqb_f⟩ := HQB.out.cells3
          obtain ⟨hx_0, hx_1, hx_2, hx_3, hx_4, hx_5, hx_6, hx_f⟩ := HX.out.cells7
          obtain ⟨hn_0, hn_1, hn_2, hn_3, hn_4, hn_5, hn_6, hn_f⟩ := HN.out.cells7
          go_wp2_with fail
          clear hdb_0 hdb_1 hdb_2 hdb_3 hdb_4 hdb_5 hdb_6 hdb_7 hdb_8 hqb_0 hqb_1 hqb_2 hqb_f hx_0 hx_1 hx_2 hx_3 hx_4 hx_5 hx_6 hx_f hn_0 hn_1 hn_2 hn_3 hn_4 hn_5 hn_6 hn_f
          have hh := has_calls HG.out HGL.out q
          rw [HHG.out] at hh
          refine (hh).mono ?_
          rintro r wn ⟨rfl, hf⟩
          have HF := Hd.mk (HF.out.trans hf)
          have HDB := Hd.mk (HDB.out.fr hf (by simp))
          have HQB := Hd.mk (HQB.out.fr hf (by simp))
          have HS := Hd.mk (HS.out.fr0 hf)
          have HFR := Hd.mk (HFR.out.trans hf)
          have HX := Hd.mk (HX.out.fr hf (by simp))
          have HG := Hd.mk (row0 HG.out hf)
          have HN := Hd.mk (HN.out.fr hf (by simp))
          clear hf hh
          obtain ⟨hdb_0, hdb_1, hdb_2, hdb_3, hdb_4, hdb_5, hdb_6, hdb_7, hdb_8⟩ := HDB.out.cells9
          obtain ⟨hqb_0, hqb_1, hqb_2, hqb_f⟩ := HQB.out.cells3
          obtain ⟨hx_0, hx_1, hx_2, hx_3, hx_4, hx_5, hx_6, hx_f⟩ := HX.out.cells7
          obtain ⟨hn_0, hn_1, hn_2, hn_3, hn_4, hn_5, hn_6, hn_f⟩ := HN.out.cells7
          go_wp2
          clear hdb_0 hdb_1 hdb_2 hdb_3 hdb_4 hdb_5 hdb_6 hdb_7 hdb_8 hqb_0 hqb_1 hqb_2 hqb_f hx_0 hx_1 hx_2 hx_3 hx_4 hx_5 hx_6 hx_f hn_0 hn_1 hn_2 hn_3 hn_4 hn_5 hn_6 hn_f
          go_ret
          exact ⟨rfl, HF.out⟩
        | false =>
          obtain rfl : th = true := htt
          obtain rfl : nw = was := HTW.out rfl
          obtain ⟨hdb_0, hdb_1, hdb_2, hdb_3, hdb_4, hdb_5, hdb_6, hdb_7, hdb_8⟩ := HDB.out.cells9
          obtain ⟨hqb_0, hqb_1, hqb_2, hqb_f⟩ := HQB.out.cells3
          obtain ⟨hx_0, hx_1, hx_2, hx_3, hx_4, hx_5, hx_6, hx_f⟩ := HX.out.cells7
          obtain ⟨hn_0, hn_1, hn_2, hn_3, hn_4, hn_5, hn_6, hn_f⟩ := HN.out.cells7
          go_wp2_with fail
          clear hdb_0 hdb_1 hdb_2 hdb_3 hdb_4 hdb_5 hdb_6 hdb_7 hdb_8 hqb_0 hqb_1 hqb_2 hqb_f hx_0 hx_1 hx_2 hx_3 hx_4 hx_5 hx_6 hx_f hn_0 hn_1 hn_2 hn_3 hn_4 hn_5 hn_6 hn_f
          have hh := has_calls HG.out HGL.out q
          rw [HHG.out] at hh
          refine (hh).mono ?_
          rintro r wn ⟨rfl, hf⟩
          have HF := Hd.mk (HF.out.trans hf)
          have HDB := Hd.mk (HDB.out.fr hf (by simp))
          have HQB := Hd.mk (HQB.out.fr hf (by simp))
          have HS := Hd.mk (HS.out.fr0 hf)
          have HFR := Hd.mk (HFR.out.trans hf)
          have HX := Hd.mk (HX.out.fr hf (by simp))
          have HG := Hd.mk (row0 HG.out hf)
          have HN := Hd.mk (HN.out.fr hf (by simp))
          clear hf hh
          obtain ⟨hdb_0, hdb_1, hdb_2, hdb_3, hdb_4, hdb_5, hdb_6, hdb_7, hdb_8⟩ := HDB.out.cells9
          obtain ⟨hqb_0, hqb_1, hqb_2, hqb_f⟩ := HQB.out.cells3
          obtain ⟨hx_0, hx_1, hx_2, hx_3, hx_4, hx_5, hx_6, hx_f⟩ := HX.out.cells7
          obtain ⟨hn_0, hn_1, hn_2, hn_3, hn_4, hn_5, hn_6, hn_f⟩ := HN.out.cells7
          go_wp2_with fail
          clear hdb_0 hdb_1 hdb_2 hdb_3 hdb_4 hdb_5 hdb_6 hdb_7 hdb_8 hqb_0 hqb_1 hqb_2 hqb_f hx_0 hx_1 hx_2 hx_3 hx_4 hx_5 hx_6 hx_f hn_0 hn_1 hn_2 hn_3 hn_4 hn_5 hn_6 hn_f
          refine (same_calls (HRW.out.fr HFR.out)).mono ?_
          rintro r wn ⟨rfl, hf⟩
          have HF := Hd.mk (HF.out.trans hf)
          have HDB := Hd.mk (HDB.out.fr hf (by simp))
          have HQB := Hd.mk (HQB.out.fr hf (by simp))
          have HS := Hd.mk (HS.out.fr0 hf)
          have HFR := Hd.mk (HFR.out.trans hf)
          have HX := Hd.mk (HX.out.fr hf (by simp))
          have HG := Hd.mk (row0 HG.out hf)
          have HN := Hd.mk (HN.out.fr hf (by simp))
          clear hf
          obtain ⟨hdb_0, hdb_1, hdb_2, hdb_3, hdb_4, hdb_5, hdb_6, hdb_7, hdb_8⟩ := HDB.out.cells9
          obtain ⟨hqb_0, hqb_1, hqb_2, hqb_f⟩ := HQB.out.cells3
          obtain ⟨hx_0, hx_1, hx_2, hx_3, hx_4, hx_5, hx_6, hx_f⟩ := HX.out.cells7
          obtain ⟨hn_0, hn_1, hn_2, hn_3, hn_4, hn_5, hn_6, hn_f⟩ := HN.out.cells7
          go_wp2
          clear hdb_0 hdb_1 hdb_2 hdb_3 hdb_4 hdb_5 hdb_6 hdb_7 hdb_8 hqb_0 hqb_1 hqb_2 hqb_f hx_0 hx_1 hx_2 hx_3 hx_4 hx_5 hx_6 hx_f hn_0 hn_1 hn_2 hn_3 hn_4 hn_5 hn_6 hn_f
          go_ret
          exact ⟨rfl, HF.out⟩
      | false =>
        cases hg with
        | true =>
          obtain rfl : th = false := htt
          obtain ⟨hdb_0, hdb_1, hdb_2, hdb_3, hdb_4, hdb_5, hdb_6, hdb_7, hdb_8⟩ := HDB.out.cells9
          obtain ⟨hqb_0, hqb_1, hqb_2, hqb_f⟩ := HQB.out.cells3
          obtain ⟨hx_0, hx_1, hx_2, hx_3, hx_4, hx_5, hx_6, hx_f⟩ := HX.out.cells7
          obtain ⟨hn_0, hn_1, hn_2, hn_3, hn_4, hn_5, hn_6, hn_f⟩ := HN.out.cells7
          go_wp2
          clear hdb_0 hdb_1 hdb_2 hdb_3 hdb_4 hdb_5 hdb_6 hdb_7 hdb_8 hqb_0 hqb_1 hqb_2 hqb_f hx_0 hx_1 hx_2 hx_3 hx_4 hx_5 hx_6 hx_f hn_0 hn_1 hn_2 hn_3 hn_4 hn_5 hn_6 hn_f
          go_ret
          exact ⟨rfl, HF.out⟩
        | false =>
          obtain rfl : th = false := htt
          obtain ⟨hdb_0, hdb_1, hdb_2, hdb_3, hdb_4, hdb_5, hdb_6, hdb_7, hdb_8⟩ := HDB.out.cells9
          obtain ⟨hqb_0, hqb_1, hqb_2, hqb_f⟩ := HQB.out.cells3
          obtain ⟨hx_0, hx_1, hx_2, hx_3, hx_4, hx_5, hx_6, hx_f⟩ := HX.out.cells7
          obtain ⟨hn_0, hn_1, hn_2, hn_3, hn_4, hn_5, hn_6, hn_f⟩ := HN.out.cells7
          go_wp2
          clear hdb_0 hdb_1 hdb_2 hdb_3 hdb_4 hdb_5 hdb_6 hdb_7 hdb_8 hqb_0 hqb_1 hqb_2 hqb_f hx_0 hx_1 hx_2 hx_3 hx_4 hx_5 hx_6 hx_f hn_0 hn_1 hn_2 hn_3 hn_4 hn_5 hn_6 hn_f
          go_ret
          exact ⟨rfl, HF.out⟩
    | false =>
      have HG : Hd (QRow wn 0 (.slice none 0 0) ([] : List Qn)) := Hd.mk (World.ownsRow_nil _ _ _ _)
      obtain ⟨G, hG⟩ : ∃ l : List Qn, l = [] := ⟨_, rfl⟩
      rw [← hG] at HG
      have HGL : Hd (G.length < 1000000) := Hd.mk (by rw [hG]; decide)
      have HGE : Hd (s1.ent q = if q ∈ G then none else s0.ent q) := Hd.mk (by
        rw [hG, HEV.out]
        by_cases h : q = d.e.q
        · subst h
          have := HFB.out
          simp at this
          simp [this]
        · simp [h])
      clear hG
      obtain ⟨hqb_0, hqb_1, hqb_2, hqb_f⟩ := HQB.out.cells3
      obtain ⟨hdb_0, hdb_1, hdb_2, hdb_3, hdb_4, hdb_5, hdb_6, hdb_7, hdb_8⟩ := HDB.out.cells9
      go_wp2_with fail
      clear hqb_0 hqb_1 hqb_2 hqb_f hdb_0 hdb_1 hdb_2 hdb_3 hdb_4 hdb_5 hdb_6 hdb_7 hdb_8
      refine (lookup_calls HS.out q 0).mono ?_
      rintro r wn ⟨rfl, hs, hf⟩
      have h2 := look_told s1 q 0
      rw [show (lookR s1 q 0).2.1 = (tellE (s1.ent q) 0).1 by rw [h2], show (lookR s1 q 0).2.2 = (tellE (s1.ent q) 0).2 by rw [h2]]
      clear h2
      have HF := Hd.mk (fr_over HF.out HNEW.out hf)
      have HDB := Hd.mk (HDB.out.fr hf HNX.out.1)
      have HQB := Hd.mk (HQB.out.fr hf HNX.out.2)
      have HFR := Hd.mk (fr_over HFR.out HNEWR.out hf)
      have HX := Hd.mk (HX.out.fr hf NHX.out.1)
      have HG := Hd.mk (row_step HG.out HS.out hf)
      have HS := Hd.mk hs
      clear hf hs
      obtain ⟨th, hth⟩ : ∃ b, (tellE (s1.ent q) 0).2 = b := ⟨_, rfl⟩
      obtain ⟨nw, hnw⟩ : ∃ b, (tellE (s1.ent q) 0).1 = b := ⟨_, rfl⟩
      rw [hth, hnw]
      have HTH := Hd.mk (And.intro hth hnw)
      clear hth hnw
      unfold En.v
      go_upto_region 16 with (fail)
      refine wp_name ?_; intro wxn hwa
      have hfa := alloc_of hwa
      have hba := blk_of (T := 29) (c := [.string nw.q.name, .int .u16 nw.q.ty, .int .u16 nw.q.cl, .slice nw.ra nw.rn nw.rc, .int .i64 nw.rcode, .int .i64 nw.rank, .int .u64 nw.expire]) hwa
      clear hwa
      obtain ⟨xn, hxx⟩ : ∃ x, wn.heap.size = x := ⟨_, rfl⟩
      rw [hxx] at hba ⊢
      have NHN : Hd (xn ∉ B.wr ∧ w.heap.size ≤ xn ∧ xn ∉ B.all) := Hd.mk ⟨fun h => by have := HS.out.lt _ (B.wr_all _ h); omega, by have := HF.out.size; omega, fun h => by have := HS.out.lt _ h; omega⟩
      have NHNHDB : Hd (xn ≠ xd) := Hd.mk (by have := HDB.out.lt; omega)
      have NHNHQB : Hd (xn ≠ xq) := Hd.mk (by have := HQB.out.lt; omega)
      have NHNHX : Hd (xn ≠ xx) := Hd.mk (by have := HX.out.lt; omega)
      have HF := Hd.mk (HF.out.trans hfa)
      have HDB := Hd.mk (HDB.out.fr hfa (by simp))
      have HQB := Hd.mk (HQB.out.fr hfa (by simp))
      have HS := Hd.mk (HS.out.fr0 hfa)
      have HFR := Hd.mk (HFR.out.trans hfa)
      have HX := Hd.mk (HX.out.fr hfa (by simp))
      have HG := Hd.mk (row0 HG.out hfa)
      have HN := Hd.mk hba
      clear hfa hba hxx
      have h1 := goes_pure HGE.out
      rw [HIS.out.1, HIS.out.2, HTH.out.1, HTH.out.2] at h1
      obtain ⟨hg, hhg⟩ : ∃ b, decide (q ∈ G) = b := ⟨_, rfl⟩
      rw [hhg] at h1
      have HHG := Hd.mk hhg
      have HTW := Hd.mk h1.2
      have htt := h1.1
      clear h1 hhg
      cases is with
      | true =>
        cases hg with
        | true =>
          obtain rfl : th = false := htt
          obtain ⟨hdb_0, hdb_1, hdb_2, hdb_3, hdb_4, hdb_5, hdb_6, hdb_7, hdb_8⟩ := HDB.out.cells9
          obtain ⟨hqb_0, hqb_1, hqb_2, hqb_f⟩ := HQB.out.cells3
          obtain ⟨hx_0, hx_1, hx_2, hx_3, hx_4, hx_5, hx_6, hx_f⟩ := HX.out.cells7
          obtain ⟨hn_0, hn_1, hn_2, hn_3, hn_4, hn_5, hn_6, hn_f⟩ := HN.out.cells7
          go_wp2_with fail
          clear hdb_0 hdb_1 hdb_2 hdb_3 hdb_4 hdb_5 hdb_6 hdb_7 hdb_8 hqb_0 hqb_1 hqb_2 hqb_f hx_0 hx_1 hx_2 hx_3 hx_4 hx_5 hx_6 hx_f hn_0 hn_1 hn_2 hn_3 hn_4 hn_5 hn_6 hn_f
          have hh := has_calls HG.out HGL.out q
          rw [HHG.out] at hh
          refine (hh).mono ?_
          rintro r wn ⟨rfl, hf⟩
          have HF := Hd.mk (HF.out.trans hf)
          have HDB := Hd.mk (HDB.out.fr hf (by simp))
          have HQB := Hd.mk (HQB.out.fr hf (by simp))
          have HS := Hd.mk (HS.out.fr0 hf)
          have HFR := Hd.mk (HFR.out.trans hf)
          have HX := Hd.mk (HX.out.fr hf (by simp))
          have HG := Hd.mk (row0 HG.out hf)
          have HN := Hd.mk (HN.out.fr hf (by simp))
          clear hf hh
          obtain ⟨hdb_0, hdb_1, hdb_2, hdb_3, hdb_4, hdb_5, hdb_6, hdb_7, hdb_8⟩ := HDB.out.cells9
          obtain ⟨hqb_0, hqb_1, hqb_2, hqb_f⟩ := HQB.out.cells3
          obtain ⟨hx_0, hx_1, hx_2, hx_3, hx_4, hx_5, hx_6, hx_f⟩ := HX.out.cells7
          obtain ⟨hn_0, hn_1, hn_2, hn_3, hn_4, hn_5, hn_6, hn_f⟩ := HN.out.cells7
          go_wp2
          clear hdb_0 hdb_1 hdb_2 hdb_3 hdb_4 hdb_5 hdb_6 hdb_7 hdb_8 hqb_0 hqb_1 hqb_2 hqb_f hx_0 hx_1 hx_2 hx_3 hx_4 hx_5 hx_6 hx_f hn_0 hn_1 hn_2 hn_3 hn_4 hn_5 hn_6 hn_f
          go_ret
          exact ⟨rfl, HF.out⟩
        | false =>
          obtain rfl : th = true := htt
          obtain rfl : nw = was := HTW.out rfl
          obtain ⟨hdb_0, hdb_1, hdb_2, hdb_3, hdb_4, hdb_5, hdb_6, hdb_7, hdb_8⟩ := HDB.out.cells9
          obtain ⟨hqb_0, hqb_1, hqb_2, hqb_f⟩ := HQB.out.cells3
          obtain ⟨hx_0, hx_1, hx_2, hx_3, hx_4, hx_5, hx_6, hx_f⟩ := HX.out.cells7
          obtain ⟨hn_0, hn_1, hn_2, hn_3, hn_4, hn_5, hn_6, hn_f⟩ := HN.out.cells7
          go_wp2_with fail
          clear hdb_0 hdb_1 hdb_2 hdb_3 hdb_4 hdb_5 hdb_6 hdb_7 hdb_8 hqb_0 hqb_1 hqb_2 hqb_f hx_0 hx_1 hx_2 hx_3 hx_4 hx_5 hx_6 hx_f hn_0 hn_1 hn_2 hn_3 hn_4 hn_5 hn_6 hn_f
          have hh := has_calls HG.out HGL.out q
          rw [HHG.out] at hh
          refine (hh).mono ?_
          rintro r wn ⟨rfl, hf⟩
          have HF := Hd.mk (HF.out.trans hf)
          have HDB := Hd.mk (HDB.out.fr hf (by simp))
          have HQB := Hd.mk (HQB.out.fr hf (by simp))
          have HS := Hd.mk (HS.out.fr0 hf)
          have HFR := Hd.mk (HFR.out.trans hf)
          have HX := Hd.mk (HX.out.fr hf (by simp))
          have HG := Hd.mk (row0 HG.out hf)
          have HN := Hd.mk (HN.out.fr hf (by simp))
          clear hf hh
          obtain ⟨hdb_0, hdb_1, hdb_2, hdb_3, hdb_4, hdb_5, hdb_6, hdb_7, hdb_8⟩ := HDB.out.cells9
          obtain ⟨hqb_0, hqb_1, hqb_2, hqb_f⟩ := HQB.out.cells3
          obtain ⟨hx_0, hx_1, hx_2, hx_3, hx_4, hx_5, hx_6, hx_f⟩ := HX.out.cells7
          obtain ⟨hn_0, hn_1, hn_2, hn_3, hn_4, hn_5, hn_6, hn_f⟩ := HN.out.cells7
          go_wp2_with fail
          clear hdb_0 hdb_1 hdb_2 hdb_3 hdb_4 hdb_5 hdb_6 hdb_7 hdb_8 hqb_0 hqb_1 hqb_2 hqb_f hx_0 hx_1 hx_2 hx_3 hx_4 hx_5 hx_6 hx_f hn_0 hn_1 hn_2 hn_3 hn_4 hn_5 hn_6 hn_f
          refine (same_calls (HRW.out.fr HFR.out)).mono ?_
          rintro r wn ⟨rfl, hf⟩
          have HF := Hd.mk (HF.out.trans hf)
          have HDB := Hd.mk (HDB.out.fr hf (by simp))
          have HQB := Hd.mk (HQB.out.fr hf (by simp))
          have HS := Hd.mk (HS.out.fr0 hf)
          have HFR := Hd.mk (HFR.out.trans hf)
          have HX := Hd.mk (HX.out.fr hf (by simp))
          have HG := Hd.mk (row0 HG.out hf)
          have HN := Hd.mk (HN.out.fr hf (by simp))
          clear hf
          obtain ⟨hdb_0, hdb_1, hdb_2, hdb_3, hdb_4, hdb_5, hdb_6, hdb_7, hdb_8⟩ := HDB.out.cells9
          obtain ⟨hqb_0, hqb_1, hqb_2, hqb_f⟩ := HQB.out.cells3
          obtain ⟨hx_0, hx_1, hx_2, hx_3, hx_4, hx_5, hx_6, hx_f⟩ := HX.out.cells7
          obtain ⟨hn_0, hn_1, hn_2, hn_3, hn_4, hn_5, hn_6, hn_f⟩ := HN.out.cells7
          go_wp2
          clear hdb_0 hdb_1 hdb_2 hdb_3 hdb_4 hdb_5 hdb_6 hdb_7 hdb_8 hqb_0 hqb_1 hqb_2 hqb_f hx_0 hx_1 hx_2 hx_3 hx_4 hx_5 hx_6 hx_f hn_0 hn_1 hn_2 hn_3 hn_4 hn_5 hn_6 hn_f
          go_ret
          exact ⟨rfl, HF.out⟩
      | false =>
        cases hg with
        | true =>
          obtain rfl : th = false := htt
          obtain ⟨hdb_0, hdb_1, hdb_2, hdb_3, hdb_4, hdb_5, hdb_6, hdb_7, hdb_8⟩ := HDB.out.cells9
          obtain ⟨hqb_0, hqb_1, hqb_2, hqb_f⟩ := HQB.out.cells3
          obtain ⟨hx_0, hx_1, hx_2, hx_3, hx_4, hx_5, hx_6, hx_f⟩ := HX.out.cells7
          obtain ⟨hn_0, hn_1, hn_2, hn_3, hn_4, hn_5, hn_6, hn_f⟩ := HN.out.cells7
          go_wp2
          clear hdb_0 hdb_1 hdb_2 hdb_3 hdb_4 hdb_5 hdb_6 hdb_7 hdb_8 hqb_0 hqb_1 hqb_2 hqb_f hx_0 hx_1 hx_2 hx_3 hx_4 hx_5 hx_6 hx_f hn_0 hn_1 hn_2 hn_3 hn_4 hn_5 hn_6 hn_f
          go_ret
          exact ⟨rfl, HF.out⟩
        | false =>
          obtain rfl : th = false := htt
          obtain ⟨hdb_0, hdb_1, hdb_2, hdb_3, hdb_4, hdb_5, hdb_6, hdb_7, hdb_8⟩ := HDB.out.cells9
          obtain ⟨hqb_0, hqb_1, hqb_2, hqb_f⟩ := HQB.out.cells3
          obtain ⟨hx_0, hx_1, hx_2, hx_3, hx_4, hx_5, hx_6, hx_f⟩ := HX.out.cells7
          obtain ⟨hn_0, hn_1, hn_2, hn_3, hn_4, hn_5, hn_6, hn_f⟩ := HN.out.cells7
          go_wp2
          clear hdb_0 hdb_1 hdb_2 hdb_3 hdb_4 hdb_5 hdb_6 hdb_7 hdb_8 hqb_0 hqb_1 hqb_2 hqb_f hx_0 hx_1 hx_2 hx_3 hx_4 hx_5 hx_6 hx_f hn_0 hn_1 hn_2 hn_3 hn_4 hn_5 hn_6 hn_f
          go_ret
          exact ⟨rfl, HF.out⟩
  obtain ⟨b0, b1, b2⟩ : (d.kind == 0) = false ∧ (d.kind == 1) = false ∧ (d.kind == 2) = false := by simp only [beq_eq_false_iff_ne]; exact ⟨hk, hk1, hk2⟩
  clear hk hk1 hk2
  obtain ⟨hdb_0, hdb_1, hdb_2, hdb_3, hdb_4, hdb_5, hdb_6, hdb_7, hdb_8⟩ := HDB.out.cells9
  go_wp2_with fail
  clear hdb_0 hdb_1 hdb_2 hdb_3 hdb_4 hdb_5 hdb_6 hdb_7 hdb_8
  refine (advance_calls HS.out HRD.out.2).mono ?_
  rintro r wn ⟨v2, rfl, hq, -, hs, hf⟩
  have HF := Hd.mk (fr_over HF.out HNEW.out hf)
  have HDB := Hd.mk (HDB.out.fr hf HNX.out.1)
  have HQB := Hd.mk (HQB.out.fr hf HNX.out.2)
  have HFR := Hd.mk (fr_over HFR.out HNEWR.out hf)
  have HX := Hd.mk (HX.out.fr hf NHX.out.1)
  have HS := Hd.mk hs
  have HG := Hd.mk (own_base hq (Nat.zero_le _))
  clear hf hs hq
  obtain ⟨G, hG⟩ : ∃ l, dueQ s0 d.now = l := ⟨_, rfl⟩
  have HGL : Hd (G.length < 1000000) := Hd.mk (by rw [← hG]; have := dueQ_len s0 d.now; have := HL0.out; omega)
  have HGE : Hd ((dueS s0 d.now).ent q = if q ∈ G then none else s0.ent q) := Hd.mk (by rw [← hG]; exact goes_due HU0.out d.now q)
  have HG3 : Hd (q ∈ G → was.expire ≤ d.now) := Hd.mk fun h => by
    rw [← hG] at h
    obtain ⟨x, hx, hle⟩ := (mem_dueQ HU0.out).1 h
    rw [← HIS.out.2]
    exact tell_due HRD.out.2 fun y hy => by rw [hx] at hy; cases hy; exact hle
  rw [hG] at HG
  obtain ⟨s1, hs1⟩ : ∃ x, dueS s0 d.now = x := ⟨_, rfl⟩
  rw [hs1] at HS HGE
  clear hs1 hG
  obtain ⟨hqb_0, hqb_1, hqb_2, hqb_f⟩ := HQB.out.cells3
  obtain ⟨hdb_0, hdb_1, hdb_2, hdb_3, hdb_4, hdb_5, hdb_6, hdb_7, hdb_8⟩ := HDB.out.cells9
  go_wp2_with fail
  clear hqb_0 hqb_1 hqb_2 hqb_f hdb_0 hdb_1 hdb_2 hdb_3 hdb_4 hdb_5 hdb_6 hdb_7 hdb_8
  refine (lookup_calls HS.out q 0).mono ?_
  rintro r wn ⟨rfl, hs, hf⟩
  have h2 := look_told s1 q 0
  rw [show (lookR s1 q 0).2.1 = (tellE (s1.ent q) 0).1 by rw [h2], show (lookR s1 q 0).2.2 = (tellE (s1.ent q) 0).2 by rw [h2]]
  clear h2
  have HF := Hd.mk (fr_over HF.out HNEW.out hf)
  have HDB := Hd.mk (HDB.out.fr hf HNX.out.1)
  have HQB := Hd.mk (HQB.out.fr hf HNX.out.2)
  have HFR := Hd.mk (fr_over HFR.out HNEWR.out hf)
  have HX := Hd.mk (HX.out.fr hf NHX.out.1)
  have HG := Hd.mk (row_step HG.out HS.out hf)
  have HS := Hd.mk hs
  clear hf hs
  obtain ⟨th, hth⟩ : ∃ b, (tellE (s1.ent q) 0).2 = b := ⟨_, rfl⟩
  obtain ⟨nw, hnw⟩ : ∃ b, (tellE (s1.ent q) 0).1 = b := ⟨_, rfl⟩
  rw [hth, hnw]
  have HTH := Hd.mk (And.intro hth hnw)
  clear hth hnw
  unfold En.v
  go_upto_region 16 with (fail)
  refine wp_name ?_; intro wxn hwa
  have hfa := alloc_of hwa
  have hba := blk_of (T := 29) (c := [.string nw.q.name, .int .u16 nw.q.ty, .int .u16 nw.q.cl, .slice nw.ra nw.rn nw.rc, .int .i64 nw.rcode, .int .i64 nw.rank, .int .u64 nw.expire]) hwa
  clear hwa
  obtain ⟨xn, hxx⟩ : ∃ x, wn.heap.size = x := ⟨_, rfl⟩
  rw [hxx] at hba ⊢
  have NHN : Hd (xn ∉ B.wr ∧ w.heap.size ≤ xn ∧ xn ∉ B.all) := Hd.mk ⟨fun h => by have := HS.out.lt _ (B.wr_all _ h); omega, by have := HF.out.size; omega, fun h => by have := HS.out.lt _ h; omega⟩
  have NHNHDB : Hd (xn ≠ xd) := Hd.mk (by have := HDB.out.lt; omega)
  have NHNHQB : Hd (xn ≠ xq) := Hd.mk (by have := HQB.out.lt; omega)
  have NHNHX : Hd (xn ≠ xx) := Hd.mk (by have := HX.out.lt; omega)
  have HF := Hd.mk (HF.out.trans hfa)
  have HDB := Hd.mk (HDB.out.fr hfa (by simp))
  have HQB := Hd.mk (HQB.out.fr hfa (by simp))
  have HS := Hd.mk (HS.out.fr0 hfa)
  have HFR := Hd.mk (HFR.out.trans hfa)
  have HX := Hd.mk (HX.out.fr hfa (by simp))
  have HG := Hd.mk (row0 HG.out hfa)
  have HN := Hd.mk hba
  clear hfa hba hxx
  have h1 := goes_pure HGE.out
  rw [HIS.out.1, HIS.out.2, HTH.out.1, HTH.out.2] at h1
  obtain ⟨hg, hhg⟩ : ∃ b, decide (q ∈ G) = b := ⟨_, rfl⟩
  rw [hhg] at h1
  have HHG := Hd.mk hhg
  have HTW := Hd.mk h1.2
  have htt := h1.1
  clear h1 hhg
  cases is with
  | true =>
    cases hg with
    | true =>
      obtain rfl : th = false := htt
      obtain ⟨hdb_0, hdb_1, hdb_2, hdb_3, hdb_4, hdb_5, hdb_6, hdb_7, hdb_8⟩ := HDB.out.cells9
      obtain ⟨hqb_0, hqb_1, hqb_2, hqb_f⟩ := HQB.out.cells3
      obtain ⟨hx_0, hx_1, hx_2, hx_3, hx_4, hx_5, hx_6, hx_f⟩ := HX.out.cells7
      obtain ⟨hn_0, hn_1, hn_2, hn_3, hn_4, hn_5, hn_6, hn_f⟩ := HN.out.cells7
      go_wp2_with fail
      clear hdb_0 hdb_1 hdb_2 hdb_3 hdb_4 hdb_5 hdb_6 hdb_7 hdb_8 hqb_0 hqb_1 hqb_2 hqb_f hx_0 hx_1 hx_2 hx_3 hx_4 hx_5 hx_6 hx_f hn_0 hn_1 hn_2 hn_3 hn_4 hn_5 hn_6 hn_f
      have hh := has_calls HG.out HGL.out q
      rw [HHG.out] at hh
      refine (hh).mono ?_
      rintro r wn ⟨rfl, hf⟩
      have HF := Hd.mk (HF.out.trans hf)
      have HDB := Hd.mk (HDB.out.fr hf (by simp))
      have HQB := Hd.mk (HQB.out.fr hf (by simp))
      have HS := Hd.mk (HS.out.fr0 hf)
      have HFR := Hd.mk (HFR.out.trans hf)
      have HX := Hd.mk (HX.out.fr hf (by simp))
      have HG := Hd.mk (row0 HG.out hf)
      have HN := Hd.mk (HN.out.fr hf (by simp))
      clear hf hh
      obtain ⟨hdb_0, hdb_1, hdb_2, hdb_3, hdb_4, hdb_5, hdb_6, hdb_7, hdb_8⟩ := HDB.out.cells9
      obtain ⟨hqb_0, hqb_1, hqb_2, hqb_f⟩ := HQB.out.cells3
      obtain ⟨hx_0, hx_1, hx_2, hx_3, hx_4, hx_5, hx_6, hx_f⟩ := HX.out.cells7
      obtain ⟨hn_0, hn_1, hn_2, hn_3, hn_4, hn_5, hn_6, hn_f⟩ := HN.out.cells7
      go_wp2_with fail
      clear hdb_0 hdb_1 hdb_2 hdb_3 hdb_4 hdb_5 hdb_6 hdb_7 hdb_8 hqb_0 hqb_1 hqb_2 hqb_f hx_0 hx_1 hx_2 hx_3 hx_4 hx_5 hx_6 hx_f hn_0 hn_1 hn_2 hn_3 hn_4 hn_5 hn_6 hn_f
      have hh := has_calls HG.out HGL.out q
      rw [HHG.out] at hh
      refine (hh).mono ?_
      rintro r wn ⟨rfl, hf⟩
      have HF := Hd.mk (HF.out.trans hf)
      have HDB := Hd.mk (HDB.out.fr hf (by simp))
      have HQB := Hd.mk (HQB.out.fr hf (by simp))
      have HS := Hd.mk (HS.out.fr0 hf)
      have HFR := Hd.mk (HFR.out.trans hf)
      have HX := Hd.mk (HX.out.fr hf (by simp))
      have HG := Hd.mk (row0 HG.out hf)
      have HN := Hd.mk (HN.out.fr hf (by simp))
      clear hf hh
      have hle : decide (was.expire ≤ d.now) = true := decide_eq_true (HG3.out (of_decide_eq_true HHG.out))
      obtain ⟨hdb_0, hdb_1, hdb_2, hdb_3, hdb_4, hdb_5, hdb_6, hdb_7, hdb_8⟩ := HDB.out.cells9
      obtain ⟨hqb_0, hqb_1, hqb_2, hqb_f⟩ := HQB.out.cells3
      obtain ⟨hx_0, hx_1, hx_2, hx_3, hx_4, hx_5, hx_6, hx_f⟩ := HX.out.cells7
      obtain ⟨hn_0, hn_1, hn_2, hn_3, hn_4, hn_5, hn_6, hn_f⟩ := HN.out.cells7
      go_wp2
      clear hdb_0 hdb_1 hdb_2 hdb_3 hdb_4 hdb_5 hdb_6 hdb_7 hdb_8 hqb_0 hqb_1 hqb_2 hqb_f hx_0 hx_1 hx_2 hx_3 hx_4 hx_5 hx_6 hx_f hn_0 hn_1 hn_2 hn_3 hn_4 hn_5 hn_6 hn_f
      go_ret
      exact ⟨rfl, HF.out⟩
    | false =>
      obtain rfl : th = true := htt
      obtain rfl : nw = was := HTW.out rfl
      obtain ⟨hdb_0, hdb_1, hdb_2, hdb_3, hdb_4, hdb_5, hdb_6, hdb_7, hdb_8⟩ := HDB.out.cells9
      obtain ⟨hqb_0, hqb_1, hqb_2, hqb_f⟩ := HQB.out.cells3
      obtain ⟨hx_0, hx_1, hx_2, hx_3, hx_4, hx_5, hx_6, hx_f⟩ := HX.out.cells7
      obtain ⟨hn_0, hn_1, hn_2, hn_3, hn_4, hn_5, hn_6, hn_f⟩ := HN.out.cells7
      go_wp2_with fail
      clear hdb_0 hdb_1 hdb_2 hdb_3 hdb_4 hdb_5 hdb_6 hdb_7 hdb_8 hqb_0 hqb_1 hqb_2 hqb_f hx_0 hx_1 hx_2 hx_3 hx_4 hx_5 hx_6 hx_f hn_0 hn_1 hn_2 hn_3 hn_4 hn_5 hn_6 hn_f
      have hh := has_calls HG.out HGL.out q
      rw [HHG.out] at hh
      refine (hh).mono ?_
      rintro r wn ⟨rfl, hf⟩
      have HF := Hd.mk (HF.out.trans hf)
      have HDB := Hd.mk (HDB.out.fr hf (by simp))
      have HQB := Hd.mk (HQB.out.fr hf (by simp))
      have HS := Hd.mk (HS.out.fr0 hf)
      have HFR := Hd.mk (HFR.out.trans hf)
      have HX := Hd.mk (HX.out.fr hf (by simp))
      have HG := Hd.mk (row0 HG.out hf)
      have HN := Hd.mk (HN.out.fr hf (by simp))
      clear hf hh
      obtain ⟨hdb_0, hdb_1, hdb_2, hdb_3, hdb_4, hdb_5, hdb_6, hdb_7, hdb_8⟩ := HDB.out.cells9
      obtain ⟨hqb_0, hqb_1, hqb_2, hqb_f⟩ := HQB.out.cells3
      obtain ⟨hx_0, hx_1, hx_2, hx_3, hx_4, hx_5, hx_6, hx_f⟩ := HX.out.cells7
      obtain ⟨hn_0, hn_1, hn_2, hn_3, hn_4, hn_5, hn_6, hn_f⟩ := HN.out.cells7
      go_wp2_with fail
      clear hdb_0 hdb_1 hdb_2 hdb_3 hdb_4 hdb_5 hdb_6 hdb_7 hdb_8 hqb_0 hqb_1 hqb_2 hqb_f hx_0 hx_1 hx_2 hx_3 hx_4 hx_5 hx_6 hx_f hn_0 hn_1 hn_2 hn_3 hn_4 hn_5 hn_6 hn_f
      refine (same_calls (HRW.out.fr HFR.out)).mono ?_
      rintro r wn ⟨rfl, hf⟩
      have HF := Hd.mk (HF.out.trans hf)
      have HDB := Hd.mk (HDB.out.fr hf (by simp))
      have HQB := Hd.mk (HQB.out.fr hf (by simp))
      have HS := Hd.mk (HS.out.fr0 hf)
      have HFR := Hd.mk (HFR.out.trans hf)
      have HX := Hd.mk (HX.out.fr hf (by simp))
      have HG := Hd.mk (row0 HG.out hf)
      have HN := Hd.mk (HN.out.fr hf (by simp))
      clear hf
      obtain ⟨hdb_0, hdb_1, hdb_2, hdb_3, hdb_4, hdb_5, hdb_6, hdb_7, hdb_8⟩ := HDB.out.cells9
      obtain ⟨hqb_0, hqb_1, hqb_2, hqb_f⟩ := HQB.out.cells3
      obtain ⟨hx_0, hx_1, hx_2, hx_3, hx_4, hx_5, hx_6, hx_f⟩ := HX.out.cells7
      obtain ⟨hn_0, hn_1, hn_2, hn_3, hn_4, hn_5, hn_6, hn_f⟩ := HN.out.cells7
      go_wp2_with fail
      clear hdb_0 hdb_1 hdb_2 hdb_3 hdb_4 hdb_5 hdb_6 hdb_7 hdb_8 hqb_0 hqb_1 hqb_2 hqb_f hx_0 hx_1 hx_2 hx_3 hx_4 hx_5 hx_6 hx_f hn_0 hn_1 hn_2 hn_3 hn_4 hn_5 hn_6 hn_f
      have hh := has_calls HG.out HGL.out q
      rw [HHG.out] at hh
      refine (hh).mono ?_
      rintro r wn ⟨rfl, hf⟩
      have HF := Hd.mk (HF.out.trans hf)
      have HDB := Hd.mk (HDB.out.fr hf (by simp))
      have HQB := Hd.mk (HQB.out.fr hf (by simp))
      have HS := Hd.mk (HS.out.fr0 hf)
      have HFR := Hd.mk (HFR.out.trans hf)
      have HX := Hd.mk (HX.out.fr hf (by simp))
      have HG := Hd.mk (row0 HG.out hf)
      have HN := Hd.mk (HN.out.fr hf (by simp))
      clear hf hh
      obtain ⟨hdb_0, hdb_1, hdb_2, hdb_3, hdb_4, hdb_5, hdb_6, hdb_7, hdb_8⟩ := HDB.out.cells9
      obtain ⟨hqb_0, hqb_1, hqb_2, hqb_f⟩ := HQB.out.cells3
      obtain ⟨hx_0, hx_1, hx_2, hx_3, hx_4, hx_5, hx_6, hx_f⟩ := HX.out.cells7
      obtain ⟨hn_0, hn_1, hn_2, hn_3, hn_4, hn_5, hn_6, hn_f⟩ := HN.out.cells7
      go_wp2
      clear hdb_0 hdb_1 hdb_2 hdb_3 hdb_4 hdb_5 hdb_6 hdb_7 hdb_8 hqb_0 hqb_1 hqb_2 hqb_f hx_0 hx_1 hx_2 hx_3 hx_4 hx_5 hx_6 hx_f hn_0 hn_1 hn_2 hn_3 hn_4 hn_5 hn_6 hn_f
      go_ret
      exact ⟨rfl, HF.out⟩
  | false =>
    cases hg with
    | true =>
      obtain rfl : th = false := htt
      obtain ⟨hdb_0, hdb_1, hdb_2, hdb_3, hdb_4, hdb_5, hdb_6, hdb_7, hdb_8⟩ := HDB.out.cells9
      obtain ⟨hqb_0, hqb_1, hqb_2, hqb_f⟩ := HQB.out.cells3
      obtain ⟨hx_0, hx_1, hx_2, hx_3, hx_4, hx_5, hx_6, hx_f⟩ := HX.out.cells7
      obtain ⟨hn_0, hn_1, hn_2, hn_3, hn_4, hn_5, hn_6, hn_f⟩ := HN.out.cells7
      go_wp2_with fail
      clear hdb_0 hdb_1 hdb_2 hdb_3 hdb_4 hdb_5 hdb_6 hdb_7 hdb_8 hqb_0 hqb_1 hqb_2 hqb_f hx_0 hx_1 hx_2 hx_3 hx_4 hx_5 hx_6 hx_f hn_0 hn_1 hn_2 hn_3 hn_4 hn_5 hn_6 hn_f
      have hh := has_calls HG.out HGL.out q
      rw [HHG.out] at hh
      refine (hh).mono ?_
      rintro r wn ⟨rfl, hf⟩
      have HF := Hd.mk (HF.out.trans hf)
      have HDB := Hd.mk (HDB.out.fr hf (by simp))
      have HQB := Hd.mk (HQB.out.fr hf (by simp))
      have HS := Hd.mk (HS.out.fr0 hf)
      have HFR := Hd.mk (HFR.out.trans hf)
      have HX := Hd.mk (HX.out.fr hf (by simp))
      have HG := Hd.mk (row0 HG.out hf)
      have HN := Hd.mk (HN.out.fr hf (by simp))
      clear hf hh
      have hle : decide (was.expire ≤ d.now) = true := decide_eq_true (HG3.out (of_decide_eq_true HHG.out))
      obtain ⟨hdb_0, hdb_1, hdb_2, hdb_3, hdb_4, hdb_5, hdb_6, hdb_7, hdb_8⟩ := HDB.out.cells9
      obtain ⟨hqb_0, hqb_1, hqb_2, hqb_f⟩ := HQB.out.cells3
      obtain ⟨hx_0, hx_1, hx_2, hx_3, hx_4, hx_5, hx_6, hx_f⟩ := HX.out.cells7
      obtain ⟨hn_0, hn_1, hn_2, hn_3, hn_4, hn_5, hn_6, hn_f⟩ := HN.out.cells7
      go_wp2
      clear hdb_0 hdb_1 hdb_2 hdb_3 hdb_4 hdb_5 hdb_6 hdb_7 hdb_8 hqb_0 hqb_1 hqb_2 hqb_f hx_0 hx_1 hx_2 hx_3 hx_4 hx_5 hx_6 hx_f hn_0 hn_1 hn_2 hn_3 hn_4 hn_5 hn_6 hn_f
      go_ret
      exact ⟨rfl, HF.out⟩
    | false =>
      obtain rfl : th = false := htt
      obtain ⟨hdb_0, hdb_1, hdb_2, hdb_3, hdb_4, hdb_5, hdb_6, hdb_7, hdb_8⟩ := HDB.out.cells9
      obtain ⟨hqb_0, hqb_1, hqb_2, hqb_f⟩ := HQB.out.cells3
      obtain ⟨hx_0, hx_1, hx_2, hx_3, hx_4, hx_5, hx_6, hx_f⟩ := HX.out.cells7
      obtain ⟨hn_0, hn_1, hn_2, hn_3, hn_4, hn_5, hn_6, hn_f⟩ := HN.out.cells7
      go_wp2_with fail
      clear hdb_0 hdb_1 hdb_2 hdb_3 hdb_4 hdb_5 hdb_6 hdb_7 hdb_8 hqb_0 hqb_1 hqb_2 hqb_f hx_0 hx_1 hx_2 hx_3 hx_4 hx_5 hx_6 hx_f hn_0 hn_1 hn_2 hn_3 hn_4 hn_5 hn_6 hn_f
      have hh := has_calls HG.out HGL.out q
      rw [HHG.out] at hh
      refine (hh).mono ?_
      rintro r wn ⟨rfl, hf⟩
      have HF := Hd.mk (HF.out.trans hf)
      have HDB := Hd.mk (HDB.out.fr hf (by simp))
      have HQB := Hd.mk (HQB.out.fr hf (by simp))
      have HS := Hd.mk (HS.out.fr0 hf)
      have HFR := Hd.mk (HFR.out.trans hf)
      have HX := Hd.mk (HX.out.fr hf (by simp))
      have HG := Hd.mk (row0 HG.out hf)
      have HN := Hd.mk (HN.out.fr hf (by simp))
      clear hf hh
      obtain ⟨hdb_0, hdb_1, hdb_2, hdb_3, hdb_4, hdb_5, hdb_6, hdb_7, hdb_8⟩ := HDB.out.cells9
      obtain ⟨hqb_0, hqb_1, hqb_2, hqb_f⟩ := HQB.out.cells3
      obtain ⟨hx_0, hx_1, hx_2, hx_3, hx_4, hx_5, hx_6, hx_f⟩ := HX.out.cells7
      obtain ⟨hn_0, hn_1, hn_2, hn_3, hn_4, hn_5, hn_6, hn_f⟩ := HN.out.cells7
      go_wp2
      clear hdb_0 hdb_1 hdb_2 hdb_3 hdb_4 hdb_5 hdb_6 hdb_7 hdb_8 hqb_0 hqb_1 hqb_2 hqb_f hx_0 hx_1 hx_2 hx_3 hx_4 hx_5 hx_6 hx_f hn_0 hn_1 hn_2 hn_3 hn_4 hn_5 hn_6 hn_f
      go_ret
      exact ⟨rfl, HF.out⟩
end Go.Proofs.Ytjfhdffmlnkooaa
