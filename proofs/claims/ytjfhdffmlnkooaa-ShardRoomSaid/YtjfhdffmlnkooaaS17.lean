import Derived.Test.YtjfhdffmlnkooaaRP
import Derived.Test.YtjfhdffmlnkooaaRH
import Derived.Test.YtjfhdffmlnkooaaRB
namespace Go.Proofs.Ytjfhdffmlnkooaa
open Go Go.RowKit Go.Proofs.MapL PPM Go.Proofs.YtjfhdffmlnkooaaW.PrintWords

theorem nodup_take {α : Type} : ∀ {l : List α} {k : Nat} {q : α}, l.Nodup → l[k]? = some q → q ∉ l.take k := by
  intro l
  induction l with
  | nil => intro k q _ h; cases h
  | cons a l ih =>
    intro k q hn h
    cases k with
    | zero => simp
    | succ k =>
      rw [List.getElem?_cons_succ] at h
      rw [List.take_succ_cons, List.mem_cons, not_or]
      rw [List.nodup_cons] at hn
      exact ⟨fun e => hn.1 (e ▸ List.mem_of_getElem? h), ih hn.2 h⟩
theorem room_pure {s : SS} (hh : s.hand < s.l.length) (hU : Uq s) (hl : s.l.length = 4) (e : En) (now : Int) :
    (keysS (insR s e now).1).length ≤ 4 ∧ ((insR s e now).2.1.length = 0 ∨ ((keysS s).length = 4 ∧ (insR s e now).2.2 = 0)) ∧
    decide (e.q ∈ keysS (insR s e now).1) = (decide ((insR s e now).2.2 = 0) || decide (e.q ∈ keysS s)) ∧ (insR s e now).2.1.length ≤ 4 ∧
    (∀ q ∈ keysS s, decide (q ∈ keysS (insR s e now).1) = !decide (q ∈ (insR s e now).2.1)) ∧ ((insR s e now).2.2 = 0 ∨ (insR s e now).2.2 = 4 ∨ (insR s e now).2.2 = 7) ∧ (keysS (insR s e now).1).Nodup ∧ (keysS s).length ≤ 4 := by
  have h1 : (keysS (insR s e now).1).length ≤ 4 := by rw [keys_len]; have := all_le (insR s e now).1; rw [ins_len] at this; omega
  have h4 : (insR s e now).2.1.length ≤ 4 := by have := insQ_len s e now; omega
  have h7 := keys_nodup (ins_uq hh hU e now)
  have h8 : (keysS s).length ≤ 4 := by rw [keys_len]; have := all_le s; omega
  refine ⟨h1, ?_, ?_, h4, ?_, ?_, h7, h8⟩
  all_goals cases hlv : liveB e.expire now with
    | false =>
      rw [ins_dead hlv]
      first
      | exact .inl rfl
      | exact .inr (.inl rfl)
      | (dsimp only; simp; done)
      | (intro q hq; simp [hq])
    | true =>
      cases ho : s.ent e.q with
      | some o =>
        have hke : e.q ∈ keysS s := (mem_keys hU).2 (by rw [ho]; rfl)
        cases hb : beatsB o e now with
        | false =>
          rw [ins_low hlv ho hb]
          first
          | exact .inl rfl
          | exact .inr (.inr rfl)
          | (dsimp only; simp; done)
          | (intro q hq; simp [hq])
        | true =>
          obtain ⟨h2, hU2, -, he⟩ := ins_beats hU hlv ho hb
          rw [h2]
          first
          | exact .inl rfl
          | (have : e.q ∈ keysS (insR s e now).1 := (mem_keys hU2).2 (by rw [he, if_pos rfl]; rfl)
             simp [this]; done)
          | (intro q hq
             have : q ∈ keysS (insR s e now).1 := by
               rw [mem_keys hU2, he]
               split
               · rfl
               · exact (mem_keys hU).1 hq
             simp [this])
      | none =>
        obtain ⟨h2, hU2, -, he⟩ := ins_new hh hU hlv ho
        rw [h2]
        first
        | exact .inl rfl
        | (dsimp only
           rcases Nat.eq_zero_or_pos (goneQ s now).length with h | h
           · exact .inl h
           · refine .inr ⟨?_, rfl⟩
             rw [keys_len, gone_full (s := s) (now := now) (by intro e0; rw [e0] at h; cases h)]; exact hl)
        | (have : e.q ∈ keysS (insR s e now).1 := (mem_keys hU2).2 (by rw [he, if_pos rfl]; rfl)
           simp [this]; done)
        | (intro q hq
           have hqe : q ≠ e.q := by rintro rfl; have := (mem_keys hU).1 hq; rw [ho] at this; cases this
           dsimp only
           have hm : q ∈ keysS (insR s e now).1 ↔ q ∉ goneQ s now := by
             rw [mem_keys hU2, he, if_neg hqe]
             split
             · rename_i h; simp [h]
             · rename_i h; simp [h]; exact (mem_keys hU).1 hq
           by_cases hg : q ∈ goneQ s now
           · simp [hm, hg]
           · simp [hm, hg])
set_option maxRecDepth 100000 in
set_option maxHeartbeats 8000000 in
theorem room_law {w : World} {v : Value} {ds : List Dd} (hD : DeedsAt w v ds) (e : En) (he : TOk e.expire) (now : Int) (hn : TOk now) : Calls Try.prog 6 #[v, e.v, .int .u64 now] w fun r w' => r = .returned (.bool true) ∧ Fr [] w w' := by
  have HTE := Hd.mk he
  have HTN := Hd.mk hn
  clear he hn
  unfold En.v
  go_enter Try.func6, Try.ntmps6
  go_upto_region 1 with (fail)
  refine wp_name ?_; intro w0 hw0
  have hF0 := alloc_of hw0
  have hb0 : Blk w0 w.heap.size 29 [.string e.q.name, .int .u16 e.q.ty, .int .u16 e.q.cl, .slice e.ra e.rn e.rc, .int .i64 e.rcode, .int .i64 e.rank, .int .u64 e.expire] := blk_of (c := [.string e.q.name, .int .u16 e.q.ty, .int .u16 e.q.cl, .slice e.ra e.rn e.rc, .int .i64 e.rcode, .int .i64 e.rank, .int .u64 e.expire]) hw0
  clear hw0
  obtain ⟨x, hx⟩ : ∃ x, w.heap.size = x := ⟨_, rfl⟩
  have HXW : Hd (w.heap.size ≤ x) := Hd.mk (by omega)
  rw [hx] at hb0 ⊢
  have HF := Hd.mk hF0
  have HE := Hd.mk hb0
  have HD := Hd.mk (hD.fr hF0)
  clear hF0 hb0 hx hD
  go_wp2_with fail
  refine (shown_calls _).mono ?_
  rintro r wn ⟨rfl, hf⟩
  have HF := Hd.mk (HF.out.trans hf)
  have HE := Hd.mk (HE.out.fr hf (by simp))
  have HD := Hd.mk (HD.out.fr hf)
  clear hf
  go_wp2_with fail
  refine (ran_calls HD.out).mono ?_
  rintro r wn ⟨B, s, rfl, hs, hl4, hh4, hen, hf, hge⟩
  have HXL : Hd (∀ k ∈ B.all, x < k) := Hd.mk fun k hk => by have := hge k hk; have := HE.out.lt; omega
  have HNEW : Hd (∀ k ∈ B.all, w.heap.size ≤ k) := Hd.mk fun k hk => by have := HXL.out k hk; have := HXW.out; omega
  have HNX : Hd (x ∉ B.wr) := Hd.mk fun h => by have := HXL.out x (B.wr_all x h); omega
  have HF := Hd.mk (HF.out.trans hf)
  have HE := Hd.mk (HE.out.fr hf (by simp))
  have HS := Hd.mk hs
  have HP := Hd.mk (room_pure (hl4.symm ▸ hh4) hs.uq hl4 e now)
  clear hf hs hge hl4 hh4 hen
  go_wp2_with fail
  refine (keys_calls HS.out).mono ?_
  rintro r wn ⟨v1, rfl, hq1, -, hs, hf⟩
  have HF := Hd.mk (HF.out.trans hf)
  have HE := Hd.mk (HE.out.fr hf (by simp))
  have HS := Hd.mk hs
  have HQ1 := Hd.mk hq1
  clear hf hs hq1
  obtain ⟨he_0, he_1, he_2, he_3, he_4, he_5, he_6, he_f⟩ := HE.out.cells7
  go_wp2_with fail
  clear he_0 he_1 he_2 he_3 he_4 he_5 he_6 he_f
  refine (shinsert_calls HS.out e HTE.out HTN.out).mono ?_
  rintro r wn ⟨v2, rfl, hq2, -, hs, hf⟩
  have HF := Hd.mk (fr_over HF.out HNEW.out hf)
  have HE := Hd.mk (HE.out.fr hf HNX.out)
  have HQ1 := Hd.mk (row_step HQ1.out HS.out hf)
  have HS := Hd.mk hs
  have HQ2 := Hd.mk hq2
  clear hf hs hq2
  go_wp2_with fail
  refine (keys_calls HS.out).mono ?_
  rintro r wn ⟨v3, rfl, hq3, -, hs, hf⟩
  have HF := Hd.mk (HF.out.trans hf)
  have HE := Hd.mk (HE.out.fr hf (by simp))
  have HQ1 := Hd.mk (row0 HQ1.out hf)
  have HQ2 := Hd.mk (row0 HQ2.out hf)
  have HS := Hd.mk hs
  have HQ3 := Hd.mk hq3
  clear hf hs hq3
  obtain ⟨was, hwas⟩ : ∃ l, keysS s = l := ⟨_, rfl⟩
  obtain ⟨is, his⟩ : ∃ l, keysS (insR s e now).1 = l := ⟨_, rfl⟩
  obtain ⟨gone, hgone⟩ : ∃ l, (insR s e now).2.1 = l := ⟨_, rfl⟩
  obtain ⟨bad, hbad⟩ : ∃ n, (insR s e now).2.2 = n := ⟨_, rfl⟩
  rw [hwas, his, hgone, hbad] at HP
  rw [hwas] at HQ1
  rw [his] at HQ3
  rw [hgone] at HQ2
  rw [hbad]
  clear hwas his hgone hbad
  have HWL : Hd (was.length ≤ 4) := Hd.mk HP.out.2.2.2.2.2.2.2
  obtain ⟨A1, c1, rfl, ha1⟩ := row_form HQ1.out
  obtain ⟨A2, c2, rfl, ha2⟩ := row_form HQ2.out
  obtain ⟨A3, c3, rfl, ha3⟩ := row_form HQ3.out
  have HA1 := Hd.mk ha1
  have HA3 := Hd.mk ha3
  clear ha1 ha2 ha3
  go_wp2_with fail
  have HIL : Hd (is.length < 1000000) := Hd.mk (by have := HP.out.1; omega)
  have HWN : Hd (was.length < 1000000) := Hd.mk (by have := HWL.out; omega)
  have HGN : Hd (gone.length < 1000000) := Hd.mk (by have := HP.out.2.2.2.1; omega)
  go_loopw [13] (fun i wr => ∃ k : Nat, k ≤ is.length ∧ i = .int .i64 k ∧ Fr [] wn wr) (fun i _ => is.length - (intOf i).toNat)
  case atStart => exact ⟨0, Nat.zero_le _, rfl, Fr.refl _ _⟩
  case round =>
    obtain ⟨k, hk, rfl, hFr⟩ := hrel
    have HFr := Hd.mk hFr
    have HQ3r := Hd.mk (row0 HQ3.out hFr)
    clear hFr
    by_cases hlt : k < is.length
    · obtain ⟨g3, rfl⟩ := HA3.out.1 (by omega)
      obtain ⟨q, hq⟩ : ∃ q, is[k]? = some q := ⟨_, List.getElem?_eq_getElem hlt⟩
      have HKQ := Hd.mk hq
      have HKL := Hd.mk hlt
      have HNT : Hd (decide (q ∈ is.take k) = false) := Hd.mk (decide_eq_false (nodup_take HP.out.2.2.2.2.2.2.1 hq))
      clear hq
      go_wp2_with fail
      refine wp_region_gs { R := Fr [], R1 := Fr [], gs := [Is (.slice (some ⟨g3, 0, none⟩) is.length c3), Is (.int .i64 k), Is (.slice (some ⟨g3, 0, none⟩) k c3), Is (.slice (some ⟨g3, 0, none⟩) is.length c3), Is (.int .i64 k), Is (.pointer (some ⟨g3, k * 3, none⟩)), Is (.agg #[.string q.name, .int .u16 q.ty, .int .u16 q.cl]), Is (.bool false)], ds := [some 35, some 36, some 37, some 38, some 39, some 40, some 41, some 42], fl := [false, false, false, false, false, false, false, false], hs := [], hd := [] } [false, false, false, false, false, false, false, false, false, false, false, false, false, false, false, false, false, false, false, false, false, false, false, false, false, false, false, false, false, false, false, false, false, false, false, true, true, true, true, true, true, true, true, false, false, false, false, false, false, false, false, false, false, false, false, false, false, false, false, false, false, false, false, false, false, false, false, false, false, false, false, false, false, false, false, false, false, false, false, false, false, false, false, false, false, false, false, false, false, false, false, false, false, false, false, false, false, false, false, false, false, false] (by kernel_rfl) _ (by kernel_rfl) (by kernel_rfl) (by kernel_rfl) (by kernel_rfl) rfl [] (fun _ _ _ h1 h2 => h1.trans h2) (fun _ _ h => h) (staI (staI (staI (staI (staI (staI (staI (staI sta0)))))))) sth0 (fun _ _ h => h.size) _ (Fr.refl _ _) trivial ?_ ?_
      · refine ⟨?_, ?_, ?_, ?_, ?_, ?_, ?_, ?_, trivial⟩
        · intro σ w' hR hd
          simp only [fill, Nat.reduceAdd, if_true, Bool.false_eq_true, if_false]
          clear hd
          go_wp2
          exact ⟨Fr.refl _ _, rfl⟩
        · intro σ w' hR hd
          simp only [fill, Nat.reduceAdd, if_true, Bool.false_eq_true, if_false]
          clear hd
          go_wp2
          exact ⟨Fr.refl _ _, rfl⟩
        · intro σ w' hR hd
          simp only [fill, Nat.reduceAdd, if_true, Bool.false_eq_true, if_false]
          obtain h35 : σ 35 = _ := hd 0 (by decide)
          obtain h36 : σ 36 = _ := hd 1 (by decide)
          rw [h35, h36]
          clear h35 h36
          clear hd
          have hkl := HKL.out
          have hcl := HA3.out.2
          go_wp2
          exact ⟨Fr.refl _ _, rfl⟩
        · intro σ w' hR hd
          simp only [fill, Nat.reduceAdd, if_true, Bool.false_eq_true, if_false]
          clear hd
          go_wp2
          exact ⟨Fr.refl _ _, rfl⟩
        · intro σ w' hR hd
          simp only [fill, Nat.reduceAdd, if_true, Bool.false_eq_true, if_false]
          clear hd
          go_wp2
          exact ⟨Fr.refl _ _, rfl⟩
        · intro σ w' hR hd
          simp only [fill, Nat.reduceAdd, if_true, Bool.false_eq_true, if_false]
          obtain h38 : σ 38 = _ := hd 3 (by decide)
          obtain h39 : σ 39 = _ := hd 4 (by decide)
          rw [h38, h39]
          clear h38 h39
          clear hd
          have hkl := HKL.out
          go_wp2
          exact ⟨Fr.refl _ _, rfl⟩
        · intro σ w' hR hd
          simp only [fill, Nat.reduceAdd, if_true, Bool.false_eq_true, if_false]
          obtain h40 : σ 40 = _ := hd 5 (by decide)
          rw [h40]
          clear h40
          clear hd
          obtain ⟨r0, r1, r2⟩ := row_cells (row0 HQ3r.out ((Fr.drew (Fr.refl [] _)).trans hR)) HKQ.out
          go_wp2
          exact ⟨Fr.refl _ _, rfl⟩
        · intro σ w' hR hd
          simp only [fill, Nat.reduceAdd, if_true, Bool.false_eq_true, if_false]
          obtain h37 : σ 37 = _ := hd 2 (by decide)
          obtain h41 : σ 41 = _ := hd 6 (by decide)
          rw [h37, h41]
          clear h37 h41
          clear hd
          go_wp2_with fail
          have hh := has_take (row0 HQ3r.out ((Fr.drew (Fr.refl [] _)).trans hR)) HIL.out (Nat.le_of_lt HKL.out) q
          rw [HNT.out] at hh
          refine hh.mono ?_
          rintro r w4 ⟨rfl, hf4⟩
          have HF4 := Hd.mk hf4
          clear hf4 hh
          go_wp2
          exact ⟨HF4.out, rfl⟩
      · intro σ w3 hR hG hH
        obtain h42 : σ 42 = _ := hG 7 (by decide)
        simp only [fill, Nat.reduceAdd, if_true, Bool.false_eq_true, if_false, h42]
        clear h42
        clear hG
        have HFr2 := Hd.mk (HFr.out.trans ((Fr.drew (Fr.refl [] _)).trans hR))
        clear hR hH
        have hil := HIL.out
        have hwn := HWN.out
        have hkl := HKL.out
        go_wp2
        go_roundw
        case rel => exact ⟨k + 1, by omega, by go_num, HFr2.out⟩
        case measure => simp [intOf]; omega
    · have HFa := Hd.mk (HF.out.trans HFr.out)
      have HEa := Hd.mk (HE.out.fr HFr.out (by simp))
      have HQ1a := Hd.mk (row0 HQ1.out HFr.out)
      have HQ2a := Hd.mk (row0 HQ2.out HFr.out)
      go_wp2_with fail
      clear hk hlt
      go_loopw [14] (fun i wr2 => ∃ k : Nat, k ≤ was.length ∧ i = .int .i64 k ∧ Fr [] wr wr2) (fun i _ => was.length - (intOf i).toNat)
      case atStart => exact ⟨0, Nat.zero_le _, rfl, Fr.refl _ _⟩
      case round =>
        obtain ⟨k, hk, rfl, hFr⟩ := hrel
        have HFr := Hd.mk hFr
        have HQ1r := Hd.mk (row0 HQ1a.out hFr)
        have HQ2r := Hd.mk (row0 HQ2a.out hFr)
        have HQ3r := Hd.mk (row0 HQ3r.out hFr)
        clear hFr
        by_cases hlt : k < was.length
        · obtain ⟨g1, rfl⟩ := HA1.out.1 (by omega)
          obtain ⟨q, hq⟩ : ∃ q, was[k]? = some q := ⟨_, List.getElem?_eq_getElem hlt⟩
          have HKQ := Hd.mk hq
          have HKL := Hd.mk hlt
          obtain ⟨b, hb⟩ : ∃ b, decide (q ∈ gone) = b := ⟨_, rfl⟩
          have HBG := Hd.mk hb
          have HBI : Hd (decide (q ∈ is) = !b) := Hd.mk (by rw [HP.out.2.2.2.2.1 q (List.mem_of_getElem? hq), hb])
          clear hq hb
          go_wp2_with fail
          refine wp_region_gs { R := Fr [], R1 := Fr [], gs := [Is (.slice A3 is.length c3), Is (.slice (some ⟨g1, 0, none⟩) was.length c1), Is (.int .i64 k), Is (.pointer (some ⟨g1, k * 3, none⟩)), Is (.agg #[.string q.name, .int .u16 q.ty, .int .u16 q.cl]), Is (.bool (!b)), Is (.slice A2 gone.length c2), Is (.slice (some ⟨g1, 0, none⟩) was.length c1), Is (.int .i64 k), Is (.pointer (some ⟨g1, k * 3, none⟩)), Is (.agg #[.string q.name, .int .u16 q.ty, .int .u16 q.cl]), Is (.bool b), Is (.bool false)], ds := [some 49, some 50, some 51, some 52, some 53, some 54, some 55, some 56, some 57, some 58, some 59, some 60, some 61], fl := [false, false, false, false, false, false, false, false, false, false, false, false, false], hs := [], hd := [] } [false, false, false, false, false, false, false, false, false, false, false, false, false, false, false, false, false, false, false, false, false, false, false, false, false, false, false, false, false, false, false, false, false, false, false, false, false, false, false, false, false, false, false, false, false, false, false, false, false, true, true, true, true, true, true, true, true, true, true, true, true, true, false, false, false, false, false, false, false, false, false, false, false, false, false, false, false, false, false, false, false, false, false, false, false, false, false, false, false, false, false, false, false, false, false, false, false, false, false, false, false, false] (by kernel_rfl) _ (by kernel_rfl) (by kernel_rfl) (by kernel_rfl) (by kernel_rfl) rfl [] (fun _ _ _ h1 h2 => h1.trans h2) (fun _ _ h => h) (staI (staI (staI (staI (staI (staI (staI (staI (staI (staI (staI (staI (staI sta0))))))))))))) sth0 (fun _ _ h => h.size) _ (Fr.refl _ _) trivial ?_ ?_
          · refine ⟨?_, ?_, ?_, ?_, ?_, ?_, ?_, ?_, ?_, ?_, ?_, ?_, ?_, trivial⟩
            · intro σ w' hR hd
              simp only [fill, Nat.reduceAdd, if_true, Bool.false_eq_true, if_false]
              clear hd
              go_wp2
              exact ⟨Fr.refl _ _, rfl⟩
            · intro σ w' hR hd
              simp only [fill, Nat.reduceAdd, if_true, Bool.false_eq_true, if_false]
              clear hd
              go_wp2
              exact ⟨Fr.refl _ _, rfl⟩
            · intro σ w' hR hd
              simp only [fill, Nat.reduceAdd, if_true, Bool.false_eq_true, if_false]
              clear hd
              go_wp2
              exact ⟨Fr.refl _ _, rfl⟩
            · intro σ w' hR hd
              simp only [fill, Nat.reduceAdd, if_true, Bool.false_eq_true, if_false]
              obtain h50 : σ 50 = _ := hd 1 (by decide)
              obtain h51 : σ 51 = _ := hd 2 (by decide)
              rw [h50, h51]
              clear h50 h51
              clear hd
              have hkl := HKL.out
              go_wp2
              exact ⟨Fr.refl _ _, rfl⟩
            · intro σ w' hR hd
              simp only [fill, Nat.reduceAdd, if_true, Bool.false_eq_true, if_false]
              obtain h52 : σ 52 = _ := hd 3 (by decide)
              rw [h52]
              clear h52
              clear hd
              obtain ⟨r0, r1, r2⟩ := row_cells (row0 HQ1r.out ((Fr.drew (Fr.refl [] _)).trans hR)) HKQ.out
              go_wp2
              exact ⟨Fr.refl _ _, rfl⟩
            · intro σ w' hR hd
              simp only [fill, Nat.reduceAdd, if_true, Bool.false_eq_true, if_false]
              obtain h49 : σ 49 = _ := hd 0 (by decide)
              obtain h53 : σ 53 = _ := hd 4 (by decide)
              rw [h49, h53]
              clear h49 h53
              clear hd
              go_wp2_with fail
              have hh := has_calls (row0 HQ3r.out ((Fr.drew (Fr.refl [] _)).trans hR)) HIL.out q
              rw [HBI.out] at hh
              refine hh.mono ?_
              rintro r w4 ⟨rfl, hf4⟩
              have HF4 := Hd.mk hf4
              clear hf4 hh
              go_wp2
              exact ⟨HF4.out, rfl⟩
            · intro σ w' hR hd
              simp only [fill, Nat.reduceAdd, if_true, Bool.false_eq_true, if_false]
              clear hd
              go_wp2
              exact ⟨Fr.refl _ _, rfl⟩
            · intro σ w' hR hd
              simp only [fill, Nat.reduceAdd, if_true, Bool.false_eq_true, if_false]
              clear hd
              go_wp2
              exact ⟨Fr.refl _ _, rfl⟩
            · intro σ w' hR hd
              simp only [fill, Nat.reduceAdd, if_true, Bool.false_eq_true, if_false]
              clear hd
              go_wp2
              exact ⟨Fr.refl _ _, rfl⟩
            · intro σ w' hR hd
              simp only [fill, Nat.reduceAdd, if_true, Bool.false_eq_true, if_false]
              obtain h56 : σ 56 = _ := hd 7 (by decide)
              obtain h57 : σ 57 = _ := hd 8 (by decide)
              rw [h56, h57]
              clear h56 h57
              clear hd
              have hkl := HKL.out
              go_wp2
              exact ⟨Fr.refl _ _, rfl⟩
            · intro σ w' hR hd
              simp only [fill, Nat.reduceAdd, if_true, Bool.false_eq_true, if_false]
              obtain h58 : σ 58 = _ := hd 9 (by decide)
              rw [h58]
              clear h58
              clear hd
              obtain ⟨r0, r1, r2⟩ := row_cells (row0 HQ1r.out ((Fr.drew (Fr.refl [] _)).trans hR)) HKQ.out
              go_wp2
              exact ⟨Fr.refl _ _, rfl⟩
            · intro σ w' hR hd
              simp only [fill, Nat.reduceAdd, if_true, Bool.false_eq_true, if_false]
              obtain h55 : σ 55 = _ := hd 6 (by decide)
              obtain h59 : σ 59 = _ := hd 10 (by decide)
              rw [h55, h59]
              clear h55 h59
              clear hd
              go_wp2_with fail
              have hh := has_calls (row0 HQ2r.out ((Fr.drew (Fr.refl [] _)).trans hR)) HGN.out q
              rw [HBG.out] at hh
              refine hh.mono ?_
              rintro r w4 ⟨rfl, hf4⟩
              have HF4 := Hd.mk hf4
              clear hf4 hh
              go_wp2
              exact ⟨HF4.out, rfl⟩
            · intro σ w' hR hd
              simp only [fill, Nat.reduceAdd, if_true, Bool.false_eq_true, if_false]
              obtain h54 : σ 54 = _ := hd 5 (by decide)
              obtain h60 : σ 60 = _ := hd 11 (by decide)
              rw [h54, h60]
              clear h54 h60
              clear hd
              have hbb : ((!b) == b) = false := by cases b <;> rfl
              go_wp2
              exact ⟨Fr.refl _ _, rfl⟩
          · intro σ w3 hR hG hH
            obtain h61 : σ 61 = _ := hG 12 (by decide)
            simp only [fill, Nat.reduceAdd, if_true, Bool.false_eq_true, if_false, h61]
            clear h61
            clear hG
            have HFr2 := Hd.mk (HFr.out.trans ((Fr.drew (Fr.refl [] _)).trans hR))
            clear hR hH
            have hil := HIL.out
            have hwn := HWN.out
            have hkl := HKL.out
            go_wp2
            go_roundw
            case rel => exact ⟨k + 1, by omega, by go_num, HFr2.out⟩
            case measure => simp [intOf]; omega
        · have HFb := Hd.mk (HFa.out.trans HFr.out)
          have HEb := Hd.mk (HEa.out.fr HFr.out (by simp))
          have hnl := hlt
          have hi4 : decide ((is.length : Int) ≤ 4) = true := decide_eq_true (by have := HP.out.1; omega)
          have hg4 : decide ((gone.length : Int) ≤ 4) = true := decide_eq_true (by have := HP.out.2.2.2.1; omega)
          rcases HP.out.2.2.2.2.2.1 with hbad | hbad
          · subst hbad
            have HBT : Hd (decide (e.q ∈ is) = true) := Hd.mk (by rw [HP.out.2.2.1]; rfl)
            by_cases hz : gone.length = 0
            · have hz1 : ((gone.length : Int) == 0) = true := by simp [hz]
              clear hz
              obtain ⟨r0, r1, r2, r3, r4, r5, r6, rf⟩ := HEb.out.cells7
              go_wp2_with fail
              clear r0 r1 r2 r3 r4 r5 r6 rf
              have hh := has_calls HQ3r.out HIL.out e.q
              rw [HBT.out] at hh
              refine hh.mono ?_
              rintro r w4 ⟨rfl, hf4⟩
              have HFc := Hd.mk (HFb.out.trans hf4)
              have HEc := Hd.mk (HEb.out.fr hf4 (by simp))
              have HQ1c := Hd.mk (row0 HQ1r.out hf4)
              clear hf4 hh
              go_wp2
              go_ret
              exact ⟨rfl, HFc.out⟩
            · have hz1 : ((gone.length : Int) == 0) = false := by rw [beq_eq_false_iff_ne]; omega
              have hw4 : ((was.length : Int) == 4) = true := by rw [beq_iff_eq]; have := HP.out.2.1; omega
              clear hz
              obtain ⟨r0, r1, r2, r3, r4, r5, r6, rf⟩ := HEb.out.cells7
              go_wp2_with fail
              clear r0 r1 r2 r3 r4 r5 r6 rf
              have hh := has_calls HQ3r.out HIL.out e.q
              rw [HBT.out] at hh
              refine hh.mono ?_
              rintro r w4 ⟨rfl, hf4⟩
              have HFc := Hd.mk (HFb.out.trans hf4)
              have HEc := Hd.mk (HEb.out.fr hf4 (by simp))
              have HQ1c := Hd.mk (row0 HQ1r.out hf4)
              clear hf4 hh
              go_wp2
              go_ret
              exact ⟨rfl, HFc.out⟩
          · have hz1 : ((gone.length : Int) == 0) = true := by rw [beq_iff_eq]; have := HP.out.2.1; omega
            have hb0 : (bad == 0) = false := by rw [beq_eq_false_iff_ne]; omega
            obtain ⟨b, hb⟩ : ∃ b, decide (e.q ∈ was) = b := ⟨_, rfl⟩
            have HB := Hd.mk hb
            have HBI : Hd (decide (e.q ∈ is) = b) := Hd.mk (by rw [HP.out.2.2.1, hb, decide_eq_false (by omega)]; rfl)
            have hbb : (b == b) = true := by simp
            clear hb hbad
            obtain ⟨r0, r1, r2, r3, r4, r5, r6, rf⟩ := HEb.out.cells7
            go_wp2_with fail
            clear r0 r1 r2 r3 r4 r5 r6 rf
            have hh := has_calls HQ3r.out HIL.out e.q
            rw [HBI.out] at hh
            refine hh.mono ?_
            rintro r w4 ⟨rfl, hf4⟩
            have HFc := Hd.mk (HFb.out.trans hf4)
            have HEc := Hd.mk (HEb.out.fr hf4 (by simp))
            have HQ1c := Hd.mk (row0 HQ1r.out hf4)
            clear hf4 hh
            obtain ⟨r0, r1, r2, r3, r4, r5, r6, rf⟩ := HEc.out.cells7
            go_wp2_with fail
            clear r0 r1 r2 r3 r4 r5 r6 rf
            have hh := has_calls HQ1c.out HWN.out e.q
            rw [HB.out] at hh
            refine hh.mono ?_
            rintro r w5 ⟨rfl, hf5⟩
            have HFc := Hd.mk (HFc.out.trans hf5)
            clear hf5 hh
            go_wp2
            go_ret
            exact ⟨rfl, HFc.out⟩
end Go.Proofs.Ytjfhdffmlnkooaa
