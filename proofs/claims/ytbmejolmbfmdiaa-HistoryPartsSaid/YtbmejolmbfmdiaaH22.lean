import Derived.Test.YtbmejolmbfmdiaaH21
namespace Go.Proofs.Ytbmejolmbfmdiaa
open Go Go.RowKit Go.Lib Go.Proofs.MapL

theorem row_block {W : World} {base E size n g : Nat} {v : Value} {xs : List Value} (h : W.ownsRow base E size v n xs) (hg : v.ownBlock = some g) : base ≤ g ∧ ∃ c f, W.heap[g]? = some (.cells c E f) := by
  rcases h.2 with ⟨rfl, _⟩ | ⟨g', cap, cur, rfl, hb, hh, _⟩
  · simp [Value.ownBlock] at hg
  · obtain rfl : g' = g := by simpa [Value.ownBlock] using hg
    exact ⟨hb, _, _, hh⟩
theorem rows_ne {W : World} {base base' E E' size size' n n' : Nat} {v v' : Value} {xs xs' : List Value} (h : W.ownsRow base E size v n xs) (h' : W.ownsRow base' E' size' v' n' xs') (hE : E ≠ E') : ∀ k, v.ownBlock = some k → v'.ownBlock ≠ some k := by
  intro k hk hk'
  obtain ⟨_, c, f, e⟩ := row_block h hk
  obtain ⟨_, c', f', e'⟩ := row_block h' hk'
  rw [e] at e'
  injection e' with e'
  injection e' with e1 e2
  exact hE e2
/-- The three rows that the law makes. -/
structure P3 (w : World) (base : Nat) (v7 v8 v9 : Value) (a o : List Ev) (t : List Int) : Prop where
  all : OwnE w base v7 a
  own : OwnE w base v8 o
  at_ : OwnI w base v9 t
  ne : ∀ k, v7.ownBlock = some k → v8.ownBlock ≠ some k
section
variable {w w' : World} {base : Nat} {v7 v8 v9 : Value} {a o : List Ev} {t : List Int}
theorem P3.fr (h : P3 w base v7 v8 v9 a o t) (hf : Fr [] w w') : P3 w' base v7 v8 v9 a o t := ⟨h.all.fr hf, h.own.fr hf, h.at_.fr hf, h.ne⟩
theorem P3.app7 (h : P3 w base v7 v8 v9 a o t) {x : Ev} {g n c : Nat} (hn : a.length = n) (hr : w'.ownsRow base 38 20 (.slice (some ⟨g, 0, none⟩) (n + 1) c) (n + 1) (a.flatMap evC ++ evC x)) (hf : Fr v7.ownBlock.toList w w') (hg : v7.ownBlock = some g ∨ w.heap.size ≤ g) :
    P3 w' base (.slice (some ⟨g, 0, none⟩) (n + 1) c) v8 v9 (a ++ [x]) o t := by
  refine ⟨OwnE.snoc hn hr, own_fr h.own hf (fun k hk e => h.ne k (by simpa using e) hk), own_fr h.at_ hf (fun k hk e => rows_ne h.all h.at_ (by decide) k (by simpa using e) hk), fun k hk e => ?_⟩
  have hk : g = k := by simpa [Value.ownBlock] using hk
  subst hk
  rcases hg with hg | hg
  · exact h.ne g hg e
  · have := (World.ownsRow.lt h.own g e).2; omega
theorem P3.app8 (h : P3 w base v7 v8 v9 a o t) {x : Ev} {g n c : Nat} (hn : o.length = n) (hr : w'.ownsRow base 38 20 (.slice (some ⟨g, 0, none⟩) (n + 1) c) (n + 1) (o.flatMap evC ++ evC x)) (hf : Fr v8.ownBlock.toList w w') (hg : v8.ownBlock = some g ∨ w.heap.size ≤ g) :
    P3 w' base v7 (.slice (some ⟨g, 0, none⟩) (n + 1) c) v9 a (o ++ [x]) t := by
  refine ⟨own_fr h.all hf (fun k hk e => h.ne k hk (by simpa using e)), OwnE.snoc hn hr, own_fr h.at_ hf (fun k hk e => rows_ne h.own h.at_ (by decide) k (by simpa using e) hk), fun k hk e => ?_⟩
  have e : g = k := by simpa [Value.ownBlock] using e
  subst e
  rcases hg with hg | hg
  · exact h.ne g hk hg
  · have := (World.ownsRow.lt h.all g hk).2; omega
theorem P3.app9 (h : P3 w base v7 v8 v9 a o t) {x : Int} {g n c : Nat} (hn : t.length = n) (hr : w'.ownsRow base 3 1 (.slice (some ⟨g, 0, none⟩) (n + 1) c) (n + 1) (t.map (Value.int .i64) ++ [.int .i64 x])) (hf : Fr v9.ownBlock.toList w w') :
    P3 w' base v7 v8 (.slice (some ⟨g, 0, none⟩) (n + 1) c) a o (t ++ [x]) :=
  ⟨own_fr h.all hf (fun k hk e => rows_ne h.all h.at_ (by decide) k hk (by simpa using e)), own_fr h.own hf (fun k hk e => rows_ne h.own h.at_ (by decide) k hk (by simpa using e)), OwnI.snoc hn hr, h.ne⟩
/-- An append to a row of the law's own turns nothing that lay ahead of it. -/
theorem app_fr {w1 : World} {E size n : Nat} {v : Value} {xs : List Value} (h1 : Fr [] w1 w) (hb : w1.heap.size = base) (hr : w.ownsRow base E size v n xs) (hf : Fr v.ownBlock.toList w w') : Fr [] w1 w' :=
  h1.weak hf (fun k hk => .inr (by have := (World.ownsRow.lt hr k (by simpa using hk)).1; omega))
end
attribute [local go_sem] evC_len fill_size0 fill_ev
set_option maxRecDepth 100000 in
set_option maxHeartbeats 8000000 in
theorem parts_calls {w0 : World} {xs : List Ev} {A : Option Addr} {c : Nat} (hs : SlIs evC 20 w0 A xs.length xs) (hx : ∀ x ∈ xs, EvOK w0 x ∧ shI x) {k : Nat} (hk8 : k < 256) : Calls Try.prog 3 #[.slice A xs.length c, .int .u8 k] w0 fun r w' => r = .returned (.bool true) ∧ Fr [] w0 w' := by
  have HS := Hd.mk hs
  have HX := Hd.mk hx
  have HK8 := Hd.mk hk8
  have hlenI : (xs.length : Int) ≤ 9223372036854775807 := by have := hs.le; omega
  clear hs hx hk8
  go_enter Try.func3, Try.ntmps3
  go_wp2_with fail
  refine (shown_calls _).mono ?_
  rintro r w1 ⟨rfl, hf1⟩
  have HF1 := Hd.mk hf1
  clear hf1
  by_cases h100 : (100 : Int) < (xs.length : Int)
  · go_wp2
    go_ret
    exact ⟨rfl, HF1.out⟩
  · have HLE : Hd (xs.length ≤ 100) := Hd.mk (by omega)
    go_upto_region 5 with (fail)
    clear h100
    obtain ⟨s, hs⟩ : ∃ s, (k : Int) % 4 = s := ⟨_, rfl⟩
    rw [hs]
    clear hs
    go_wp2_with fail
    obtain ⟨base, hbase⟩ : ∃ b, w1.heap.size = b := ⟨_, rfl⟩
    have HBA := Hd.mk hbase
    clear hbase
    go_loopg [7, 8, 9, 10] xs.length (fun g v7 v8 v9 v10 wr => ∃ i : Nat, i ≤ xs.length ∧ xs.length - i ≤ g ∧ v10 = .int .i64 (i : Nat) ∧ Hd (P3 wr base v7 v8 v9 (xs.take i) (ownS s (xs.take i)) (ats s 0 (xs.take i))) ∧ Hd (Fr [] w1 wr))
    case atStart => exact ⟨0, Nat.zero_le _, by omega, rfl, ⟨⟨ownE_nil _ _, ownE_nil _ _, ownI_nil _ _, fun k h => by cases h⟩⟩, ⟨Fr.refl _ _⟩⟩
    case round =>
      obtain ⟨i, hi, hg, rfl, HO, HFR⟩ := hrel
      by_cases hlt : i < xs.length
      · obtain ⟨b, off, rfl, hb, hc⟩ := HS.out.row (by omega)
        obtain ⟨x, hxk⟩ : ∃ x, xs[i] = x := ⟨_, rfl⟩
        have HXK := Hd.mk hxk
        have HFW := Hd.mk (HF1.out.trans HFR.out)
        obtain ⟨cv, hcv⟩ : ∃ c, (evC x).toArray = c := ⟨_, rfl⟩
        have HCV := Hd.mk hcv
        have HXV : Hd (Value.agg cv = x.v) := Hd.mk (by rw [← hcv]; rfl)
        have HROW : Hd (∀ j u, (evC x)[j]? = some u → w0.cell? ⟨b, off + i * 20 + j, none⟩ = some u) := Hd.mk (fun j u hj => hc i hlt j u (by rw [hxk]; exact hj))
        have hltI : (i : Int) < (xs.length : Int) := by omega
        clear hb hc hxk hcv
        have htl : (xs.take i).length = i := by rw [List.length_take]; omega
        have hol : (ownS s (xs.take i)).length ≤ i := by rw [← htl]; exact Nat.le_trans (List.length_filter_le _ _) (by rw [List.length_take]; omega)
        have hi100 : i ≤ 100 := by have := HLE.out; omega
        obtain ⟨o, ho⟩ : ∃ o, ownS s (xs.take i) = o := ⟨_, rfl⟩
        obtain ⟨a, ha⟩ : ∃ a, ats s 0 (xs.take i) = a := ⟨_, rfl⟩
        have hal : a.length = o.length := by rw [← ha, ← ho]; exact ats_len _ _ _
        rw [ho, ha] at HO
        rw [ho] at hol
        have HOA := Hd.mk (And.intro ho ha)
        have hai : a.length ≤ i := by omega
        clear ho ha hal
        obtain ⟨A7, c7, rfl, hc7, hs7, hb7⟩ := HO.out.all.sl (by omega)
        obtain ⟨A8, c8, rfl, hc8, hs8, hb8⟩ := HO.out.own.sl (by omega)
        obtain ⟨A9, c9, rfl, hs9, hb9, hc9⟩ := cI_own HO.out.at_ (by omega)
        clear hc7 hs7 hb7 hc8 hs8 hb8 hs9 hb9 hc9
        have hbz0 : base ≤ wr.heap.size := by have h1 := HFR.out.size; have h3 := HBA.out; omega
        have HBZ0 := Hd.mk hbz0
        clear hbz0
        go_wp2_with (refine wpList_loadA rfl rfl (Try.isAgg42 _) (Try.sizeOf42 _) (row_load (fun j u hj => HFW.out.cell (HROW.out j u hj) (by simp)) (n := 20) rfl HCV.out) rfl ?_)
        rw [HXV.out]
        refine (made_calls x _).mono ?_
        rintro r w3 ⟨rfl, hf3⟩
        rw [ev_v x]
        have HP3 := Hd.mk (HO.out.fr hf3)
        have HF3 := Hd.mk (HFR.out.trans hf3)
        have hO3 : w3.ownsRow base 38 20 (.slice A7 i c7) i ((xs.take i).flatMap evC) := by have := HP3.out.all; unfold OwnE at this; rw [htl] at this; exact this
        have hbz : base ≤ w3.heap.size := by have h1 := HF3.out.size; have h3 := HBA.out; omega
        clear hf3 HO
        go_upto_region 12 with (guard_target =~ wpList _ _ _ _ _ (World.alloc _ _); refine wpList_app1s elE rfl _ _ rfl hO3 rfl (evC x) rfl (evC_len x) (evC_cell x) (by omega) (by omega) hbz ?_; intro g7 c7' w4 hown' hfr hg1 hg2 hg3)
        have HP4 := Hd.mk (HP3.out.app7 htl hown' (by simpa [htl] using hfr) (by simpa [htl] using hg3))
        have HF4 := Hd.mk (app_fr HF3.out HBA.out hO3 hfr)
        have HFZ4 := Hd.mk (HF1.out.trans HF4.out)
        have d9 := HFZ4.out.cell (HROW.out 9 _ rfl) (by simp)
        clear hO3 hbz hown' hfr hg1 hg2 hg3
        have hT : xs.take (i + 1) = xs.take i ++ [x] := by rw [List.take_succ_eq_append_getElem hlt, HXK.out]
        by_cases hsh : x.sh = s
        · have HNX : Hd (ownS s (xs.take (i + 1)) = o ++ [x] ∧ ats s 0 (xs.take (i + 1)) = a ++ [(i : Int)]) := Hd.mk ⟨by rw [hT, ownS_app, HOA.out.1, if_pos hsh], by rw [hT, ats_app, HOA.out.2, if_pos hsh, htl, Nat.zero_add]⟩
          have HT := Hd.mk hT
          rw [hsh] at d9
          clear hsh hT
          go_wp2_with (refine wpList_loadA rfl rfl (Try.isAgg42 _) (Try.sizeOf42 _) (row_load (fun j u hj => HFZ4.out.cell (HROW.out j u hj) (by simp)) (n := 20) rfl HCV.out) rfl ?_)
          rw [HXV.out]
          refine (made_calls x _).mono ?_
          rintro r w5 ⟨rfl, hf5⟩
          rw [ev_v x]
          have HP5 := Hd.mk (HP4.out.fr hf5)
          have HF5 := Hd.mk (HF4.out.trans hf5)
          have hO5 : w5.ownsRow base 38 20 (.slice A8 o.length c8) o.length (o.flatMap evC) := HP5.out.own
          have hbz : base ≤ w5.heap.size := by have h1 := HF5.out.size; have h3 := HBA.out; omega
          clear hf5 d9
          go_upto_region 14 with (guard_target =~ wpList _ _ _ _ _ (World.alloc _ _); refine wpList_app1s elE rfl _ _ rfl hO5 rfl (evC x) rfl (evC_len x) (evC_cell x) (by omega) (by omega) hbz ?_; intro g8 c8' w6 hown' hfr hg1 hg2 hg3)
          have HP6 := Hd.mk (HP5.out.app8 rfl hown' hfr hg3)
          have HF6 := Hd.mk (app_fr HF5.out HBA.out hO5 hfr)
          have hO6 : w6.ownsRow base 3 1 (.slice A9 a.length c9) a.length (a.map (Value.int .i64)) := HP6.out.at_
          have hbz6 : base ≤ w6.heap.size := by have h1 := HF6.out.size; have h3 := HBA.out; omega
          clear hO5 hbz hown' hfr hg1 hg2 hg3
          go_wp2_with (guard_target =~ wpList _ _ _ _ _ (World.alloc _ _); refine wpList_app1s elI3 rfl _ _ rfl hO6 rfl [.int .i64 (i : Nat)] rfl rfl (by simp [Value.oneCell']) (by omega) (by omega) hbz6 ?_; intro g9 c9' w7 hown' hfr hg1 hg2 hg3)
          have HP7 := Hd.mk (HP6.out.app9 rfl hown' hfr)
          have HF7 := Hd.mk (app_fr HF6.out HBA.out hO6 hfr)
          clear hO6 hbz6 hown' hfr hg1 hg2 hg3
          go_roundg (xs.length - (i + 1))
          case measure => omega
          case rel => exact ⟨i + 1, by omega, by omega, by go_num, ⟨by rw [HNX.out.1, HNX.out.2, HT.out]; exact HP7.out⟩, HF7⟩
        · have HNX : Hd (ownS s (xs.take (i + 1)) = o ∧ ats s 0 (xs.take (i + 1)) = a) := Hd.mk ⟨by rw [hT, ownS_app, HOA.out.1, if_neg hsh, List.append_nil], by rw [hT, ats_app, HOA.out.2, if_neg hsh, List.append_nil]⟩
          have HT := Hd.mk hT
          clear hT
          go_wp2
          go_roundg (xs.length - (i + 1))
          case measure => omega
          case rel => exact ⟨i + 1, by omega, by omega, by go_num, ⟨by rw [HNX.out.1, HNX.out.2, HT.out]; exact HP4.out⟩, HF4⟩
      · have : i = xs.length := by omega
        subst this
        have HO' := HO.out
        rw [List.take_length] at HO'
        obtain ⟨o, ho⟩ : ∃ o, ownS s xs = o := ⟨_, rfl⟩
        obtain ⟨a, ha⟩ : ∃ a, ats s 0 xs = a := ⟨_, rfl⟩
        have hal : a.length = o.length := by rw [← ha, ← ho]; exact ats_len _ _ _
        have hol : o.length ≤ 100 := by have := HLE.out; have : o.length ≤ xs.length := by rw [← ho]; exact List.length_filter_le _ _
                                        omega
        rw [ho, ha] at HO'
        obtain ⟨A7, c7, rfl, hc7, hs7, hb7⟩ := HO'.all.sl (by have := HLE.out; omega)
        obtain ⟨A8, c8, rfl, hc8, hs8, hb8⟩ := HO'.own.sl (by omega)
        obtain ⟨A9, c9, rfl, hs9, hb9, hc9⟩ := cI_own HO'.at_ (by omega)
        have HS7 := Hd.mk hs7
        have HS8 := Hd.mk hs8
        have HS9 := Hd.mk hs9
        have HFW := Hd.mk (HF1.out.trans HFR.out)
        have HAL := Hd.mk hal
        have HOL := Hd.mk hol
        have HOX : Hd (∀ x ∈ o, EvOK w0 x ∧ shI x) := Hd.mk (fun x hx => HX.out x (by rw [← ho] at hx; exact (List.mem_filter.1 hx).1))
        obtain ⟨V, hV⟩ : ∃ V, wrongL (rho w0) 4 3 st0 0 xs = V := ⟨_, rfl⟩
        obtain ⟨W, hW⟩ : ∃ W, wrongL (rho w0) 4 3 st0 0 o = W := ⟨_, rfl⟩
        have hPL := parts_law (rho w0) 4 3 s xs
        rw [ho, ha, hV, hW] at hPL
        have HPL := Hd.mk hPL
        have HVX : Hd (∀ y ∈ V, ∃ t : Nat, y = (t : Int) ∧ t < xs.length) := Hd.mk (fun y hy => by
          rw [← hV] at hy
          obtain ⟨t, h1, h2⟩ := wrongL_mem _ _ _ _ _ _ y hy
          exact ⟨t, by rw [h1, Nat.zero_add], h2⟩)
        have HWX : Hd (∀ y ∈ W, ∃ t : Nat, y = (t : Int) ∧ t < a.length) := Hd.mk (fun y hy => by
          rw [← hW] at hy
          obtain ⟨t, h1, h2⟩ := wrongL_mem _ _ _ _ _ _ y hy
          exact ⟨t, by rw [h1, Nat.zero_add], by rw [HAL.out]; exact h2⟩)
        have HVL : Hd (V.length ≤ 100) := Hd.mk (by rw [← hV]; exact Nat.le_trans (wrongL_len _ _ _ _ _ _) HLE.out)
        have HWL : Hd (W.length ≤ 100) := Hd.mk (by rw [← hW]; exact Nat.le_trans (wrongL_len _ _ _ _ _ _) HOL.out)
        have HV := Hd.mk hV
        have HW := Hd.mk hW
        clear hV hW hPL ho ha hal hol hc7 hs7 hb7 hc8 hs8 hb8 hs9 hb9 hc9 HO' HO HFR
        go_wp2_with fail
        have hw1 := wrong_calls (A := A8) (c := c8) HFW.out 4 3 (by omega) (xs := o) (by have := HOL.out; omega) HS8.out HOX.out
        rw [HW.out] at hw1
        refine hw1.mono ?_
        clear hw1
        rintro r w2 ⟨v, rfl, hrow, hf2⟩
        obtain ⟨B, cb, rfl, hsW, -, -⟩ := cI_own hrow (by have := HWL.out; omega)
        have HSW := Hd.mk hsW
        have HF2 := Hd.mk (HFW.out.trans hf2)
        have HS72 := Hd.mk (HS7.out.fr hf2)
        have HS92 := Hd.mk (HS9.out.fr hf2)
        have hWLI : (W.length : Int) ≤ 9223372036854775807 := by have := HWL.out; omega
        have hALI : (a.length : Int) ≤ 9223372036854775807 := by have := HOL.out; have := HAL.out; omega
        clear hrow hsW hf2
        obtain ⟨base2, hbase2⟩ : ∃ b, w2.heap.size = b := ⟨_, rfl⟩
        have HB2 := Hd.mk hbase2
        clear hbase2
        go_upto_block 2 with fail
        go_cut [12] from 60 (fun v wc => ∃ B2 cb2, v = .slice B2 (W.map fun v => (a[v.toNat]?).getD 0).length cb2 ∧ SlIs cI 1 wc B2 (W.map fun v => (a[v.toNat]?).getD 0).length (W.map fun v => (a[v.toNat]?).getD 0) ∧ Fr [] w2 wc)
        case first =>
          go_wp2_with fail
          go_loopg [12, 13] W.length (fun g v12 v13 wr => ∃ j : Nat, j ≤ W.length ∧ W.length - j ≤ g ∧ v13 = .int .i64 (j : Nat) ∧ Hd (OwnI wr base2 v12 ((W.take j).map fun v => (a[v.toNat]?).getD 0)) ∧ Hd (Fr [] w2 wr))
          case atStart => exact ⟨0, Nat.zero_le _, by omega, rfl, ⟨ownI_nil _ _⟩, ⟨Fr.refl _ _⟩⟩
          case round =>
            obtain ⟨j, hj, hg, rfl, HI, HFR⟩ := hrel
            by_cases hjl : j < W.length
            · have hjlI : (j : Int) < (W.length : Int) := by omega
              obtain ⟨b, off, rfl, hb, hc⟩ := cI_at HSW.out hjl
              obtain ⟨t, ht1, ht2⟩ := HWX.out W[j] (List.getElem_mem hjl)
              have d0 := HFR.out.cell (hc j hjl) (by simp)
              rw [ht1] at d0
              have HT1 := Hd.mk ht1
              clear hc hb ht1
              obtain ⟨b9, o9, rfl, hb9, hc9⟩ := cI_at HS92.out ht2
              obtain ⟨y, hy⟩ : ∃ y, a[t] = y := ⟨_, rfl⟩
              have d1 := HFR.out.cell (hc9 t ht2) (by simp)
              rw [hy] at d1
              have HY := Hd.mk hy
              clear hb9 hc9 hy
              have ht0 : ¬ (t : Int) < 0 := by omega
              have htl : (t : Int) < (a.length : Int) := by omega
              have htl2 : ¬ (a.length : Int) ≤ (t : Int) := by omega
              have hlen : ((W.take j).map fun v => (a[v.toNat]?).getD 0).length = j := by rw [List.length_map, List.length_take]; omega
              have hO3 := HI.out
              unfold OwnI at hO3
              rw [hlen] at hO3
              have hbz : base2 ≤ wr.heap.size := by have h1 := HFR.out.size; have h3 := HB2.out; omega
              have hW100 := HWL.out
              have HLEN := Hd.mk hlen
              clear hlen
              go_wp2_with (guard_target =~ wpList _ _ _ _ _ (World.alloc _ _); refine wpList_app1s elI3 rfl _ _ rfl hO3 rfl [.int .i64 y] rfl rfl (by simp [Value.oneCell']) (by omega) (by omega) hbz ?_; intro g9 c9' w7 hown' hfr hg1 hg2 hg3)
              have hTK : (W.take (j + 1)).map (fun v => (a[v.toNat]?).getD 0) = (W.take j).map (fun v => (a[v.toNat]?).getD 0) ++ [y] := by
                rw [List.take_succ_eq_append_getElem hjl, List.map_append, HT1.out]
                simp [List.getElem?_eq_getElem ht2, HY.out]
              have HN := Hd.mk (OwnI.snoc HLEN.out hown')
              have HNF := Hd.mk (app_fr HFR.out HB2.out hO3 hfr)
              have HTK := Hd.mk hTK
              clear hO3 hbz hown' hfr hg1 hg2 hg3 hTK
              go_roundg (W.length - (j + 1))
              case measure => omega
              case rel => exact ⟨j + 1, by omega, by omega, by go_num, ⟨by rw [HTK.out]; exact HN.out⟩, HNF⟩
            · have : j = W.length := by omega
              subst this
              have h := HI.out
              rw [List.take_length] at h
              obtain ⟨B2, cb2, rfl, hsW2, -, -⟩ := cI_own h (by rw [List.length_map]; have := HWL.out; omega)
              have HS2 := Hd.mk hsW2
              clear hsW2 h
              go_wp2_with fail
              go_meet
              case rel => exact ⟨B2, cb2, rfl, HS2.out, HFR.out⟩
        case rest =>
          obtain ⟨B2, cb2, rfl, hsW2, hf3⟩ := hcut
          obtain ⟨want, hwant⟩ : ∃ l, (W.map fun v => (a[v.toNat]?).getD 0) = l := ⟨_, rfl⟩
          rw [hwant] at hsW2 ⊢
          have HWANT := Hd.mk hwant
          have HS2 := Hd.mk hsW2
          have HF3 := Hd.mk (HF2.out.trans hf3)
          have HS73 := Hd.mk (HS72.out.fr hf3)
          clear hwant hsW2 hf3
          go_wp2_with fail
          have hw1 := wrong_calls (A := A7) (c := c7) HF3.out 4 3 (by omega) (xs := xs) (by have := HLE.out; omega) HS73.out HX.out
          rw [HV.out] at hw1
          refine hw1.mono ?_
          clear hw1
          rintro r w4 ⟨v, rfl, hrow, hf4⟩
          obtain ⟨B4, cb4, rfl, hsV, -, -⟩ := cI_own hrow (by have := HVL.out; omega)
          have HSV := Hd.mk hsV
          have HF4 := Hd.mk (HF3.out.trans hf4)
          have HS24 := Hd.mk (HS2.out.fr hf4)
          have hVLI : (V.length : Int) ≤ 9223372036854775807 := by have := HVL.out; omega
          clear hrow hsV hf4
          obtain ⟨base4, hbase4⟩ : ∃ b, w4.heap.size = b := ⟨_, rfl⟩
          have HB4 := Hd.mk hbase4
          clear hbase4
          go_wp2_with fail
          go_loopg [14, 16] V.length (fun g v14 v16 wr => ∃ j : Nat, j ≤ V.length ∧ V.length - j ≤ g ∧ v16 = .int .i64 (j : Nat) ∧ Hd (OwnI wr base4 v14 ((V.take j).filter fun v => decide (((xs[v.toNat]?).map Ev.sh) = some s))) ∧ Hd (Fr [] w4 wr))
          case atStart => exact ⟨0, Nat.zero_le _, by omega, rfl, ⟨ownI_nil _ _⟩, ⟨Fr.refl _ _⟩⟩
          case round =>
            obtain ⟨j, hj, hg, rfl, HI, HFR⟩ := hrel
            by_cases hjl : j < V.length
            · have hjlI : (j : Int) < (V.length : Int) := by omega
              obtain ⟨b, off, rfl, hb, hc⟩ := cI_at HSV.out hjl
              obtain ⟨t, ht1, ht2⟩ := HVX.out V[j] (List.getElem_mem hjl)
              have d0 := HFR.out.cell (hc j hjl) (by simp)
              rw [ht1] at d0
              have HT1 := Hd.mk ht1
              clear hc hb ht1
              obtain ⟨b9, o9, rfl, hb9, hc9⟩ := HS.out.row (by omega)
              obtain ⟨y, hy⟩ : ∃ y, (xs[t]).sh = y := ⟨_, rfl⟩
              have d1 := (HF4.out.trans HFR.out).cell (hc9 t ht2 9 _ rfl) (by simp)
              rw [hy] at d1
              have HY := Hd.mk hy
              clear hb9 hc9 hy
              have ht0 : ¬ (t : Int) < 0 := by omega
              have htl : (t : Int) < (xs.length : Int) := by omega
              have htl2 : ¬ (xs.length : Int) ≤ (t : Int) := by omega
              have hle : ((V.take j).filter fun v => decide (((xs[v.toNat]?).map Ev.sh) = some s)).length ≤ 100 := Nat.le_trans (List.length_filter_le _ _) (by rw [List.length_take]; have := HVL.out; omega)
              obtain ⟨G, hG⟩ : ∃ G, ((V.take j).filter fun v => decide (((xs[v.toNat]?).map Ev.sh) = some s)) = G := ⟨_, rfl⟩
              rw [hG] at hle HI
              have hO3 := HI.out
              unfold OwnI at hO3
              have hbz : base4 ≤ wr.heap.size := by have h1 := HFR.out.size; have h3 := HB4.out; omega
              have hTK : (V.take (j + 1)).filter (fun v => decide (((xs[v.toNat]?).map Ev.sh) = some s)) = G ++ if y = s then [(t : Int)] else [] := by
                rw [List.take_succ_eq_append_getElem hjl, List.filter_append, HT1.out, hG]
                congr 1
                by_cases hys : y = s
                · simp [List.getElem?_eq_getElem ht2, HY.out, hys]
                · simp [List.getElem?_eq_getElem ht2, HY.out, hys]
              have HTK := Hd.mk hTK
              clear hG hTK
              by_cases hys : y = s
              · have HYS := Hd.mk hys
                rw [hys] at d1
                clear hys
                go_wp2_with (guard_target =~ wpList _ _ _ _ _ (World.alloc _ _); refine wpList_app1s elI3 rfl _ _ rfl hO3 rfl [.int .i64 (t : Nat)] rfl rfl (by simp [Value.oneCell']) (by omega) (by omega) hbz ?_; intro g9 c9' w7 hown' hfr hg1 hg2 hg3)
                have HN := Hd.mk (OwnI.snoc rfl hown')
                have HNF := Hd.mk (app_fr HFR.out HB4.out hO3 hfr)
                clear hO3 hbz hown' hfr hg1 hg2 hg3
                go_roundg (V.length - (j + 1))
                case measure => omega
                case rel => exact ⟨j + 1, by omega, by omega, by go_num, ⟨by rw [HTK.out, if_pos HYS.out]; exact HN.out⟩, HNF⟩
              · have HYS := Hd.mk hys
                clear hO3 hbz
                go_wp2
                go_roundg (V.length - (j + 1))
                case measure => omega
                case rel => exact ⟨j + 1, by omega, by omega, by go_num, ⟨by rw [HTK.out, if_neg HYS.out, List.append_nil]; exact HI.out⟩, HFR⟩
            · have : j = V.length := by omega
              subst this
              have h := HI.out
              rw [List.take_length, HPL.out, HWANT.out] at h
              have hwl : want.length ≤ 100 := by rw [← HWANT.out, List.length_map]; exact HWL.out
              obtain ⟨B5, cb5, rfl, hs5, -, -⟩ := cI_own h (by omega)
              have HS5 := Hd.mk hs5
              have HWN := Hd.mk hwl
              clear hs5 h hwl
              go_wp2_with fail
              refine (ints_calls (xs := want) (ys := want) HS5.out (HS24.out.fr HFR.out) (by have := HWN.out; omega)).mono ?_
              rintro r w8 ⟨rfl, hf8⟩
              rw [show decide (want = want) = true from decide_eq_true rfl]
              have HF8 := Hd.mk (HF4.out.trans (HFR.out.trans hf8))
              clear hf8
              go_wp2
              go_ret
              exact ⟨rfl, HF8.out⟩
end Go.Proofs.Ytbmejolmbfmdiaa
