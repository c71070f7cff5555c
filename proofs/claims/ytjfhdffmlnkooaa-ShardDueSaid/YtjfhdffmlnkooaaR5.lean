import Derived.Test.YtjfhdffmlnkooaaR4
import Derived.StillTailTactics
namespace Go.Proofs.Ytjfhdffmlnkooaa
open Go Go.RowKit Go.Proofs.MapL PPM Go.Proofs.YtjfhdffmlnkooaaW.PrintWords

set_option maxRecDepth 100000 in
set_option maxHeartbeats 2000000 in
theorem rkeys_calls {w : World} {gx cx gu cu gt ct : Nat} {s : SS} (h : RefAt w gx cx gu cu gt ct s) :
    Calls Try.prog 22 #[refV gx cx gu cu gt ct s.l.length s.hand] w fun r w' => ∃ v, r = .returned v ∧ QRow w' w.heap.size v (keysS s) ∧ Fr [] w w' := by
  have H := Hd.mk h
  clear h
  unfold refV
  go_enter Try.func22, Try.ntmps22
  go_upto_region 1 with (fail)
  refine wp_name ?_; intro w0 hw0
  have hf0 : Fr [] w w0 := by rw [hw0]; exact (Fr.refl [] w).alloc _
  have hsb0 : Blk w0 (w.heap.size) 51 [.slice (some ⟨gx, 0, none⟩) s.l.length cx, .slice (some ⟨gu, 0, none⟩) s.l.length cu, .slice (some ⟨gt, 0, none⟩) s.l.length ct, .int .i64 s.hand] := by
    rw [hw0]
    have h0 := Blk.new (w) 51 [.slice (some ⟨gx, 0, none⟩) s.l.length cx, .slice (some ⟨gu, 0, none⟩) s.l.length cu, .slice (some ⟨gt, 0, none⟩) s.l.length ct, .int .i64 s.hand]
    exact h0
  clear hw0
  obtain ⟨sb, h_sb⟩ : ∃ sb, w.heap.size = sb := ⟨_, rfl⟩
  simp only [h_sb] at hsb0 ⊢
  have HWL : Hd (w.heap.size ≤ sb) := Hd.mk (by omega)
  have HLT : Hd (sb < w0.heap.size) := Hd.mk (by have := hsb0.lt; omega)
  have HSB := Hd.mk hsb0
  have H0 := Hd.mk (H.out.fr hf0)
  have HF0 := Hd.mk hf0
  have hl64 := H.out.len
  have hhd := H.out.hand
  clear hf0 hsb0 h_sb
  go_wp2_with fail
  go_loopw [3, 4] (fun o i wr => ∃ j : Nat, j ≤ s.l.length ∧ i = .int .i64 j ∧ QRow wr w0.heap.size o ((s.allTo j).map (qAt s)) ∧ Fr [] w0 wr) (fun _ i _ => s.l.length - (intOf i).toNat)
  case atStart => exact ⟨0, Nat.zero_le _, rfl, World.ownsRow_nil _ _ _ _, Fr.refl _ _⟩
  case round =>
    obtain ⟨j, hj, rfl, hq, hfr⟩ := hrel
    have HFR := Hd.mk hfr
    have HR := Hd.mk (H0.out.fr hfr)
    have HSB1 := Hd.mk (HSB.out.fr hfr (by simp))
    clear hfr
    obtain ⟨b0, b1, b2, b3, bf⟩ := HSB1.out.cells4
    by_cases hjl : j < s.l.length
    · have hgj : s.l[j]? = some s.l[j] := List.getElem?_eq_getElem hjl
      obtain ⟨a, ha⟩ : ∃ a, s.l[j] = a := ⟨_, rfl⟩
      rw [ha] at hgj
      have c1 := HR.out.use hgj
      have hx := HR.out.ent hgj
      have x0 : wr.cell? ⟨gx, j * 7, none⟩ = some (.string a.x.q.name) := hx 0 _ (by omega) rfl
      have x1 := hx 1 _ (by omega) rfl
      have x2 := hx 2 _ (by omega) rfl
      have hsucc : (s.allTo (j + 1)).map (qAt s) = (s.allTo j).map (qAt s) ++ (if a.used then [a.x.q] else []) := by
        rw [s.allTo_succ, List.map_append, hgj]
        congr 1
        have e : qAt s j = a.x.q := by unfold qAt; rw [hgj]; rfl
        cases hu : a.used <;> simp [hu, e]
      have hql : ((s.allTo j).map (qAt s)).length ≤ j := by rw [List.length_map]; exact s.allTo_le j
      have HSU := Hd.mk hsucc
      obtain ⟨K, hK⟩ : ∃ K, (s.allTo j).map (qAt s) = K := ⟨_, rfl⟩
      rw [hK] at hq HSU hql
      clear hgj ha hx hsucc hK
      cases hu : a.used with
      | false =>
        rw [hu] at c1
        have HU := Hd.mk hu
        have HQ := Hd.mk hq
        clear hu hq
        go_wp2
        go_roundw
        case rel => exact ⟨j + 1, by omega, by go_num, by rw [HSU.out, HU.out]; simpa using HQ.out, HFR.out⟩
        case measure => simp [intOf]; omega
      | true =>
        rw [hu] at c1
        have HU := Hd.mk hu
        have hbz : w0.heap.size ≤ wr.heap.size := HFR.out.size
        clear hu
        go_wp2_with (at_builtin; refine wpList_app1s elQ rfl (.tmp 17) (.tmp 24) rfl hq rfl a.x.q.c rfl rfl (by simp [Qn.c, Value.oneCell']) (by omega) (by omega) hbz ?_; intro g9 c9 w9 ho9 hf9 hb9 hg9 hor9; have HO9 := Hd.mk ho9; have HF9 := Hd.mk (HFR.out.weak hf9 (fun x hx => .inr (hq.lt x (by simpa using hx)).1)); clear ho9 hf9 hb9 hg9 hor9 hq b0 b1 b2 b3 bf c1 x0 x1 x2)
        go_roundw
        case rel =>
          refine ⟨j + 1, by omega, by go_num, ?_, HF9.out⟩
          unfold QRow
          have h9 := HO9.out
          rw [HSU.out, HU.out, if_pos rfl, List.length_append, List.flatMap_append]
          exact h9
        case measure => simp [intOf]; omega
    · have hje : j = s.l.length := by omega
      subst hje
      have HQ := Hd.mk hq
      clear hq
      go_wp2
      go_ret
      exact ⟨_, rfl, own_base HQ.out HF0.out.size, HF0.out.trans HFR.out⟩
set_option maxRecDepth 100000 in
set_option maxHeartbeats 2000000 in
theorem rvictim_calls {w : World} {gx cx gu cu gt ct : Nat} {s : SS} (h : RefAt w gx cx gu cu gt ct s) (hall : ∀ (j : Nat) (a : Sl), s.l[j]? = some a → a.used = true) {s' : SS} {i : Nat} (hv : s.vic (2 * s.l.length) = (s', i, true)) :
    Calls Try.prog 56 #[refV gx cx gu cu gt ct s.l.length s.hand] w fun r w' => ∃ gx cx gu cu gt ct, r = .returned (.tuple #[refV gx cx gu cu gt ct s'.l.length s'.hand, .int .i64 i]) ∧ RefAt w' gx cx gu cu gt ct s' ∧ Fr [] w w' := by
  have HALL := Hd.mk hall
  have HVIC := Hd.mk hv
  clear hall hv
  have H := Hd.mk h
  clear h
  unfold refV
  go_enter Try.func56, Try.ntmps56
  go_upto_region 1 with (fail)
  refine wp_name ?_; intro w0 hw0
  have hf0 : Fr [] w w0 := by rw [hw0]; exact ((Fr.refl [] w).alloc _).alloc _
  have hsb0 : Blk w0 (w.heap.size) 51 [.slice (some ⟨gx, 0, none⟩) s.l.length cx, .slice (some ⟨gu, 0, none⟩) s.l.length cu, .slice (some ⟨gt, 0, none⟩) s.l.length ct, .int .i64 s.hand] := by
    rw [hw0]
    have h0 := (Blk.new (w) 51 [.slice (some ⟨gx, 0, none⟩) s.l.length cx, .slice (some ⟨gu, 0, none⟩) s.l.length cu, .slice (some ⟨gt, 0, none⟩) s.l.length ct, .int .i64 s.hand]).alloc (.cells #[.slice none 0 0, .slice none 0 0, .slice none 0 0, .int .i64 0] 51)
    exact h0
  have hrb0 : Blk w0 (w.heap.size + 1) 51 [.slice none 0 0, .slice none 0 0, .slice none 0 0, .int .i64 0] := by
    rw [hw0]
    have h0 := Blk.new ((w).alloc (.cells #[.slice (some ⟨gx, 0, none⟩) s.l.length cx, .slice (some ⟨gu, 0, none⟩) s.l.length cu, .slice (some ⟨gt, 0, none⟩) s.l.length ct, .int .i64 s.hand] 51)) 51 [.slice none 0 0, .slice none 0 0, .slice none 0 0, .int .i64 0]
    simp only [World.size_alloc] at h0
    exact h0
  clear hw0
  obtain ⟨sb, h_sb⟩ : ∃ sb, w.heap.size = sb := ⟨_, rfl⟩
  obtain ⟨rb, h_rb⟩ : ∃ rb, sb + 1 = rb := ⟨_, rfl⟩
  simp only [h_sb, h_rb] at hsb0 hrb0 ⊢
  have HWL : Hd (w.heap.size ≤ sb ∧ w.heap.size ≤ rb) := Hd.mk (by omega)
  have HNE : Hd (sb ≠ rb) := Hd.mk (by omega)
  have HLT : Hd (sb < w0.heap.size ∧ rb < w0.heap.size) := Hd.mk (by have := hsb0.lt; have := hrb0.lt; omega)
  have HSB := Hd.mk hsb0
  have HRB := Hd.mk hrb0
  have H0 := Hd.mk (H.out.fr hf0)
  have HF0 := Hd.mk hf0
  have hl64 := H.out.len
  have hhd := H.out.hand
  clear hf0 hsb0 h_sb hrb0 h_rb
  obtain ⟨n, hn⟩ : ∃ n, s.l.length = n := ⟨_, rfl⟩
  rw [hn] at HSB hl64 hhd ⊢
  have HN := Hd.mk hn
  have hn0 : 0 < n := by omega
  have HGE : Hd (w.heap.size ≤ sb ∧ w.heap.size ≤ rb ∧ sb ≠ rb) := Hd.mk ⟨HWL.out.1, HWL.out.2, HNE.out⟩
  clear hn hhd
  go_wp2_with fail
  go_loopg [4] (2 * n) (fun k _ wr => ∃ (t : SS) (gx cx gu cu gt ct : Nat), RefAt wr gx cx gu cu gt ct t ∧ Hd (t.l.length = n ∧ (∀ (j : Nat) (a : Sl), t.l[j]? = some a → a.used = true) ∧ t.vic k = (s', i, true)) ∧ Blk wr sb 51 [.slice (some ⟨gx, 0, none⟩) n cx, .slice (some ⟨gu, 0, none⟩) n cu, .slice (some ⟨gt, 0, none⟩) n ct, .int .i64 t.hand] ∧ Blk wr rb 51 [.slice none 0 0, .slice none 0 0, .slice none 0 0, .int .i64 0] ∧ Fr [] w wr)
  case atStart => exact ⟨s, gx, cx, gu, cu, gt, ct, H0.out, Hd.mk ⟨HN.out, HALL.out, by rw [← HN.out]; exact HVIC.out⟩, HSB.out, HRB.out, HF0.out⟩
  case round =>
    obtain ⟨t, gx, cx, gu, cu, gt, ct, ht, hinv, hb, hb4, hfr⟩ := hrel
    cases gk with
    | zero => exact absurd hinv.out.2.2 (by simp [SS.vic])
    | succ gk =>
    have htn := hinv.out.1
    have hhand := ht.hand
    have hgh : t.l[t.hand]? = some t.l[t.hand] := List.getElem?_eq_getElem hhand
    have hst := SS.vic_succ hhand gk
    rw [hinv.out.2.2] at hst
    have hus := hinv.out.2.1 _ _ hgh
    obtain ⟨a, ha⟩ : ∃ a, t.l[t.hand] = a := ⟨_, rfl⟩
    rw [ha] at hgh hst hus
    rw [if_pos hus] at hst
    have hm : (t.hand + 1) % n < n := Nat.mod_lt _ hn0
    have hne1 : gx ≠ sb := own_ne ht.x hb (by decide) gx rfl
    have hne2 : gu ≠ sb := own_ne ht.u hb (by decide) gu rfl
    have hne3 : gt ≠ sb := own_ne ht.t hb (by decide) gt rfl
    have hhn : t.hand < n := by omega
    obtain ⟨b0, b1, b2, b3, bf⟩ := hb.cells4
    have HST := Hd.mk hst
    have HGH := Hd.mk hgh
    have HUS := Hd.mk hus
    have HHL := Hd.mk hhand
    have HTN := Hd.mk htn
    clear hst hgh hus ha hhand htn
    go_upto_region 3 with (fail)
    refine wp_name ?_; intro w1 hw1
    have f1 : Fr [sb] wr w1 := by rw [hw1]; exact fr_set
    have hb1 : Blk w1 sb 51 [.slice (some ⟨gx, 0, none⟩) n cx, .slice (some ⟨gu, 0, none⟩) n cu, .slice (some ⟨gt, 0, none⟩) n ct, .int .i64 ((t.hand + 1) % n : Nat)] := by
      rw [hw1]; simpa using hb.set 3 _
    have HT1 := Hd.mk ((ht.turned (n := (t.hand + 1) % n) (by rw [HTN.out]; exact hm)).frs f1 (by simpa using hne1) (by simpa using hne2) (by simpa using hne3))
    have HB1 := Hd.mk hb1
    have HR1 := Hd.mk (hb4.fr f1 (by simpa using Ne.symm HGE.out.2.2))
    have HF1 := Hd.mk (hfr.weak f1 (by simp; exact HGE.out.1))
    clear b0 b1 b2 b3 bf hw1 hb hb4 hfr f1 hb1 hne1 hne2 hne3 ht
    obtain ⟨b0, b1, b2, b3, bf⟩ := HB1.out.cells4
    have c2 := HT1.out.tou HGH.out
    cases htt : a.touched with
    | false =>
      rw [htt] at c2
      have hst := HST.out
      rw [htt, if_neg (by simp)] at hst
      simp only [Prod.mk.injEq, and_true] at hst
      obtain ⟨rfl, rfl⟩ := hst
      clear htt
      obtain ⟨d0, d1, d2, d3, df⟩ := HR1.out.cells4
      have hsr : sb ≠ rb := HGE.out.2.2
      have htn := HTN.out
      go_wp2_with fail
      refine ret_name ?_; intro w5 hw5
      obtain ⟨h5, f5⟩ := Blk.four HR1.out hw5
      clear b0 b1 b2 b3 bf d0 d1 d2 d3 df c2 hw5
      obtain ⟨y0, y1, y2, y3, -⟩ := h5.cells4
      have hra := HT1.out.frs f5 (by simpa using own_ne HT1.out.x HR1.out (by decide) _ rfl) (by simpa using own_ne HT1.out.u HR1.out (by decide) _ rfl) (by simpa using own_ne HT1.out.t HR1.out (by decide) _ rfl)
      subst htn
      exact bodyPost_ret (v := .tuple #[refV gx cx gu cu gt ct t.l.length ((t.hand + 1) % t.l.length), .int .i64 t.hand]) (by simp [results, Try.results56, go_sem, y0, y1, y2, y3, refV]) rfl
        ⟨gx, cx, gu, cu, gt, ct, rfl, hra, HF1.out.weak f5 (by simp; exact HGE.out.2.1)⟩
    | true =>
      rw [htt] at c2
      have hst := HST.out
      rw [htt, if_pos rfl] at hst
      have HST2 := Hd.mk hst
      have HTT := Hd.mk htt
      have hx := HT1.out.ent HGH.out
      have x0 : w1.cell? ⟨gx, t.hand * 7, none⟩ = some (.string a.x.q.name) := hx 0 _ (by omega) rfl
      have x1 := hx 1 _ (by omega) rfl
      have x2 := hx 2 _ (by omega) rfl
      have x3 := hx 3 _ (by omega) rfl
      have x4 := hx 4 _ (by omega) rfl
      have x5 := hx 5 _ (by omega) rfl
      have x6 := hx 6 _ (by omega) rfl
      clear hst htt hx
      go_upto_region 5 with (fail)
      go_still_tail 7, (by kernel_rfl)
      go_wp2_with fail
      clear b0 b1 b2 b3 bf c2 x0 x1 x2 x3 x4 x5 x6
      have hw := with_any (HT1.out.fr (Fr.drew (Fr.refl [] w1))) t.hand HHL.out a.x true false
      simp only [HTN.out] at hw
      refine hw.mono ?_
      rintro r w2 ⟨gx', cx', gu', cu', gt', ct', rfl, h2, hf2⟩
      have hb2 := HB1.out.drew.fr hf2 (by simp)
      have hb42 := HR1.out.drew.fr hf2 (by simp)
      have hne1 : gx' ≠ sb := own_ne h2.x hb2 (by decide) gx' rfl
      have hne2 : gu' ≠ sb := own_ne h2.u hb2 (by decide) gu' rfl
      have hne3 : gt' ≠ sb := own_ne h2.t hb2 (by decide) gt' rfl
      obtain ⟨b0, b1, b2, b3, bf⟩ := hb2.cells4
      unfold refV
      have H2 := Hd.mk h2
      have HB2 := Hd.mk hb2
      have HB42 := Hd.mk hb42
      have HF2 := Hd.mk (HF1.out.drew.trans hf2)
      clear h2 hb2 hb42 hf2 hw
      go_wp2_with fail
      go_roundg gk
      case measure => omega
      case rel =>
        clear b0 b1 b2 b3 bf
        obtain ⟨hb3, f3⟩ := HB2.out.four rfl
        refine ⟨_, gx', cx', gu', cu', gt', ct', H2.out.frs f3 (by simpa using hne1) (by simpa using hne2) (by simpa using hne3), Hd.mk ⟨?_, ?_, ?_⟩, hb3, HB42.out.fr f3 (by simpa using Ne.symm HGE.out.2.2), HF2.out.weak f3 (by simp; exact HGE.out.1)⟩
        · simp [SS.at, HTN.out]
        · intro j b hj
          rw [at_get] at hj
          split at hj
          · split at hj
            · cases hj; rfl
            · cases hj
          · exact hinv.out.2.1 j b hj
        · have e : ({ a with touched := false } : Sl) = ⟨a.x, true, false⟩ := by rw [← HUS.out]
          rw [HST2.out, e]
          simp [SS.at, HTN.out]
end Go.Proofs.Ytjfhdffmlnkooaa
