import Derived.Test.YthnbdpcbagobhaaW1
namespace Go.Proofs.Ythnbdpcbagobhaa
open Go Go.RowKit Go.Proofs.MapL

theorem nodup_at {l : List Nat} (h : l.Nodup) {i j : Nat} (hi : i < l.length) (hj : j < l.length) (e : l[i] = l[j]) : i = j := by
  have hp := List.pairwise_iff_getElem.1 h
  rcases Nat.lt_trichotomy i j with h1 | h1 | h1
  · exact absurd e (hp i j hi hj h1)
  · exact h1
  · exact absurd e.symm (hp j i hj hi h1)
section
variable {w w' : World} {p g b c : Nat} {bs : List Nat} {tu : Int} {X Y : List It} {S : List Nat}
theorem WhAt.pne (h : WhAt w p g b c bs tu X) {k : Nat} (hk : k < bs.length) : p ≠ bs[k] ∧ g ≠ bs[k] ∧ b ≠ bs[k] ∧ p ≠ b ∧ g ≠ b :=
  ⟨fun e => map_ne (h.sp k hk) h.blk e.symm, fun e => map_ne_cell (h.sp k hk) (h.row 0 (by omega)) e.symm, fun e => h.nb (by rw [e]; exact List.getElem_mem hk), fun e => map_ne h.wh h.blk e.symm, fun e => map_ne_cell h.wh (h.row 0 (by omega)) e.symm⟩
theorem WhAt.deleted (h : WhAt w p g b c bs tu X) {id : Int} {x : It} (hx : atI X id = some x) {k : Nat} (hk : k < bs.length) (hke : kOf tu bs.length x.t = k) {w3 w5 : World}
    (h3 : mapIs eI vU Try.prog 3 w3 bs[k] (delL (spokeL tu bs.length k X) id)) (f3 : Fr [bs[k]] w w3) (h5 : mapIs eI vI Try.prog 3 w5 b (delL (whereL tu bs.length X) id)) (f5 : Fr [b] w3 w5) :
    WhAt w5 p g b c bs tu (delI X id) ∧ Fr (b :: bs) w w5 := by
  obtain ⟨n1, n2, n3, n4, n5⟩ := h.pne hk
  have hF : Fr (b :: bs) w w5 := (f3.mono (by simp)).trans (f5.mono (by simp))
  have hF2 : Fr [bs[k], b] w w5 := (f3.mono (by simp)).trans (f5.mono (by simp))
  refine ⟨⟨h.blk.fr hF2 (by simp; exact ⟨n1, n4⟩), fun i hi => hF2.cell (h.row i hi) (by simp; exact ⟨n2, n5⟩), by rw [← where_del]; exact h5, fun i hi => ?_, h.nb, h.nd, h.n1, h.tu_, h.ids.filter _, fun y hy => h.ok y (List.mem_filter.1 hy).1⟩, hF⟩
  by_cases hik : i = k
  · subst hik
    rw [← spoke_del]
    exact map_fr h3 f5 (by simp; exact Ne.symm n3)
  · rw [spoke_keep h.ids hx (by rw [hke]; omega)]
    refine map_fr (h.sp i hi) hF2 ?_
    simp only [List.mem_cons, List.not_mem_nil, or_false, not_or]
    exact ⟨fun e => hik (nodup_at h.nd hi hk e), fun e => h.nb (by rw [← e]; exact List.getElem_mem hi)⟩
theorem WhAt.added (h : WhAt w p g b c bs tu X) {id t : Int} (hx : atI X id = none) (hid : IdOk id) (ht : TOk t) {k : Nat} (hk : k < bs.length) (hke : kOf tu bs.length t = k) {w3 w5 : World}
    (h3 : mapIs eI vU Try.prog 3 w3 bs[k] (putL (spokeL tu bs.length k X) id t)) (f3 : Fr [bs[k]] w w3) (h5 : mapIs eI vI Try.prog 3 w5 b (putL (whereL tu bs.length X) id k)) (f5 : Fr [b] w3 w5) :
    WhAt w5 p g b c bs tu (X ++ [⟨id, t⟩]) ∧ Fr (b :: bs) w w5 := by
  obtain ⟨n1, n2, n3, n4, n5⟩ := h.pne hk
  have hF : Fr (b :: bs) w w5 := (f3.mono (by simp)).trans (f5.mono (by simp))
  have hF2 : Fr [bs[k], b] w w5 := (f3.mono (by simp)).trans (f5.mono (by simp))
  have hids : Ids (X ++ [⟨id, t⟩]) := by
    rw [Ids, List.pairwise_append]
    refine ⟨h.ids, List.pairwise_singleton _ _, fun a ha y hy => ?_⟩
    obtain rfl := List.mem_singleton.1 hy
    simpa using List.find?_eq_none.1 hx a ha
  refine ⟨⟨h.blk.fr hF2 (by simp; exact ⟨n1, n4⟩), fun i hi => hF2.cell (h.row i hi) (by simp; exact ⟨n2, n5⟩), ?_, fun i hi => ?_, h.nb, h.nd, h.n1, h.tu_, hids, fun y hy => ?_⟩, hF⟩
  · rw [put_new (by rw [where_find, hx]; rfl)] at h5
    rw [where_add]
    show mapIs _ _ _ _ _ _ (_ ++ [(id, kOf tu bs.length t)])
    rw [hke]; exact h5
  · rw [spoke_add]
    by_cases hik : i = k
    · subst hik
      rw [put_new (by rw [spoke_find h.ids, hx]; rfl)] at h3
      rw [if_pos hke]
      exact map_fr h3 f5 (by simp; exact Ne.symm n3)
    · rw [if_neg (by show ¬ kOf tu bs.length t = _; rw [hke]; omega)]
      refine map_fr (h.sp i hi) hF2 ?_
      simp only [List.mem_cons, List.not_mem_nil, or_false, not_or]
      exact ⟨fun e => hik (nodup_at h.nd hi hk e), fun e => h.nb (by rw [← e]; exact List.getElem_mem hi)⟩
  · rcases List.mem_append.1 hy with hy | hy
    · exact h.ok y hy
    · obtain rfl := List.mem_singleton.1 hy; exact ⟨hid, ht⟩
theorem del_nil (id : Int) (w : World) : Calls Try.prog 11 #[.pointer none, .int .i64 id] w fun r w' => r = .returned (.bool false) ∧ w' = w := by
  go_enter Try.func11, Try.ntmps11
  go_wp2_with fail
  refine (at_nil id _).mono ?_
  rintro r w1 ⟨rfl, rfl⟩
  go_wp2
  go_ret
  exact ⟨rfl, rfl⟩
set_option maxRecDepth 100000 in
set_option maxHeartbeats 2000000 in
theorem del_calls (h : WhAt w p g b c bs tu X) {id : Int} (hid : IdOk id) : Calls Try.prog 11 #[.pointer (some ⟨p, 0, none⟩), .int .i64 id] w fun r w' => r = .returned (.bool (atI X id).isSome) ∧ WhAt w' p g b c bs tu (delI X id) ∧ Fr (b :: bs) w w' := by
  cases hX : atI X id with
  | none =>
    rw [delI_none hX]
    have hat := at_calls h hid
    unfold atV at hat
    rw [hX] at hat
    simp only [Option.map_none, Option.getD_none, Option.isSome_none] at hat ⊢
    have HAT := Hd.mk hat
    have HH := Hd.mk h
    clear hat h
    go_enter Try.func11, Try.ntmps11
    go_wp2_with fail
    refine HAT.out.mono ?_
    rintro r w1 ⟨rfl, rfl⟩
    go_wp2
    go_ret
    exact ⟨rfl, HH.out, Fr.refl _ _⟩
  | some x =>
    have hat := at_calls h hid
    unfold atV at hat
    rw [hX] at hat
    simp only [Option.map_some, Option.getD_some, Option.isSome_some] at hat ⊢
    have hk := kOf_lt tu x.t (n := bs.length) h.n1.1
    obtain ⟨k, hke⟩ := Int.eq_ofNat_of_zero_le hk.1
    have hkl : k < bs.length := by omega
    obtain ⟨n1, n2, n3, n4, n5⟩ := h.pne hkl
    have HDL := Hd.mk (fun w3 w5 => h.deleted (w3 := w3) (w5 := w5) hX hkl hke)
    have HWF : Hd (findL (whereL tu bs.length X) id = some (k : Int)) := Hd.mk (by rw [where_find, hX]; simp [hke])
    have HB := Hd.mk h.blk
    have HW := Hd.mk h.wh
    have HSK := Hd.mk (h.sp k hkl)
    have HC := Hd.mk (h.row k hkl)
    have HAT := Hd.mk hat
    obtain ⟨bk, hbk⟩ : ∃ bk, bs[k] = bk := ⟨_, rfl⟩
    rw [hbk] at n1 n2 n3 HDL HSK HC
    obtain ⟨Ls, hLs⟩ : ∃ Ls, spokeL tu bs.length k X = Ls := ⟨_, rfl⟩
    rw [hLs] at HDL HSK
    obtain ⟨n, hn⟩ : ∃ n, bs.length = n := ⟨_, rfl⟩
    have HP : Hd (p ∉ [bk]) := Hd.mk (by simpa using n1)
    have HG : Hd (g ∉ [bk]) := Hd.mk (by simpa using n2)
    have HBB : Hd (b ∉ [bk]) := Hd.mk (by simpa using n3)
    rw [hn] at HDL HWF HB HW hkl
    clear hat h hX hk hke hLs hbk hn n1 n2 n3 n4 n5
    go_enter Try.func11, Try.ntmps11
    go_wp2_with fail
    refine HAT.out.mono ?_
    rintro r w1 ⟨rfl, rfl⟩
    go_wp2_with fail
    refine wp_region_gs { R := Fr [bk], R1 := Fr [], gs := [Is (.pointer (some ⟨p, 0, none⟩)), Is (.pointer (some ⟨p, 0, none⟩)), Is (.pointer (some ⟨p, 0, none⟩)), Is (.slice (some ⟨g, 0, none⟩) n c), Is (.pointer (some ⟨p, 0, none⟩)), Is (.pointer (some ⟨p, 0, none⟩)), Is (.pointer (some ⟨p, 2, none⟩)), Is (.map (some b)), Is (.int .i64 id), Is (.int .i64 k), Is (.pointer (some ⟨g, k, none⟩)), Is (.map (some bk)), Is (.int .i64 id), No], ds := [some 15, some 16, some 17, some 18, some 19, some 20, some 21, some 22, some 23, some 24, some 25, some 26, some 27, none], fl := [false, false, false, false, false, false, false, false, false, false, false, false, false, true], hs := [fun _ w2 => mapIs eI vU Try.prog 3 w2 bk Ls, fun _ w2 => mapIs eI vU Try.prog 3 w2 bk (delL Ls id)], hd := [[], []] } [false, false, false, false, false, false, false, false, false, false, false, false, false, false, false, true, true, true, true, true, true, true, true, true, true, true, true, true, false, false, false, false, false] (by kernel_rfl) _ (by kernel_rfl) (by kernel_rfl) (by kernel_rfl) (by kernel_rfl) rfl [] (fun _ _ _ h1 h2 => h1.trans h2) (fun _ _ h => h.mono (by simp)) (staI (staI (staI (staI (staI (staI (staI (staI (staI (staI (staI (staI (staI (staN sta0)))))))))))))) (sth (fun _ _ _ hf h => map_fr h hf (by simp)) (sth (fun _ _ _ hf h => map_fr h hf (by simp)) sth0)) (fun _ _ h => h.size) _ (Fr.refl _ _) HSK.out ?_ ?_
    · refine ⟨?_, ?_, ?_, ?_, ?_, ?_, ?_, ?_, ?_, ?_, ?_, ?_, ?_, ?_, trivial⟩
      · intro σ w' hR hd
        simp only [fill, Nat.reduceAdd, if_true, Bool.false_eq_true, if_false]
        clear hd
        go_wp2
        exact ⟨Fr.refl _ _, rfl⟩
      · intro σ w' hR hd
        simp only [fill, Nat.reduceAdd, if_true, Bool.false_eq_true, if_false]
        obtain h15 : σ 15 = _ := hd 0 (by decide)
        rw [h15]
        clear h15
        clear hd
        go_wp2
        exact ⟨Fr.refl _ _, rfl⟩
      · intro σ w' hR hd
        simp only [fill, Nat.reduceAdd, if_true, Bool.false_eq_true, if_false]
        obtain h16 : σ 16 = _ := hd 1 (by decide)
        rw [h16]
        clear h16
        clear hd
        go_wp2
        exact ⟨Fr.refl _ _, rfl⟩
      · intro σ w' hR hd
        simp only [fill, Nat.reduceAdd, if_true, Bool.false_eq_true, if_false]
        obtain h17 : σ 17 = _ := hd 2 (by decide)
        rw [h17]
        clear h17
        clear hd
        have hfr := (Fr.drew (Fr.refl [bk] _)).trans hR
        obtain ⟨c0, c1, c2, cf⟩ := (HB.out.fr hfr HP.out).cells3
        go_wp2
        exact ⟨Fr.refl _ _, rfl⟩
      · intro σ w' hR hd
        simp only [fill, Nat.reduceAdd, if_true, Bool.false_eq_true, if_false]
        clear hd
        go_wp2
        exact ⟨Fr.refl _ _, rfl⟩
      · intro σ w' hR hd
        simp only [fill, Nat.reduceAdd, if_true, Bool.false_eq_true, if_false]
        obtain h19 : σ 19 = _ := hd 4 (by decide)
        rw [h19]
        clear h19
        clear hd
        go_wp2
        exact ⟨Fr.refl _ _, rfl⟩
      · intro σ w' hR hd
        simp only [fill, Nat.reduceAdd, if_true, Bool.false_eq_true, if_false]
        obtain h20 : σ 20 = _ := hd 5 (by decide)
        rw [h20]
        clear h20
        clear hd
        go_wp2
        exact ⟨Fr.refl _ _, rfl⟩
      · intro σ w' hR hd
        simp only [fill, Nat.reduceAdd, if_true, Bool.false_eq_true, if_false]
        obtain h21 : σ 21 = _ := hd 6 (by decide)
        rw [h21]
        clear h21
        clear hd
        have hfr := (Fr.drew (Fr.refl [bk] _)).trans hR
        obtain ⟨c0, c1, c2, cf⟩ := (HB.out.fr hfr HP.out).cells3
        go_wp2
        exact ⟨Fr.refl _ _, rfl⟩
      · intro σ w' hR hd
        simp only [fill, Nat.reduceAdd, if_true, Bool.false_eq_true, if_false]
        clear hd
        go_wp2
        exact ⟨Fr.refl _ _, rfl⟩
      · intro σ w' hR hd
        simp only [fill, Nat.reduceAdd, if_true, Bool.false_eq_true, if_false]
        obtain h22 : σ 22 = _ := hd 7 (by decide)
        obtain h23 : σ 23 = _ := hd 8 (by decide)
        rw [h22, h23]
        clear h22 h23
        clear hd
        have hfr := (Fr.drew (Fr.refl [bk] _)).trans hR
        have hl := (map_fr HW.out hfr HBB.out).look kI Try.underlying49 (zI w') (key_i hid)
        rw [HWF.out] at hl
        simp only [vI, Option.map_some, Option.getD_some] at hl
        go_wp2
        exact ⟨Fr.refl _ _, rfl⟩
      · intro σ w' hR hd
        simp only [fill, Nat.reduceAdd, if_true, Bool.false_eq_true, if_false]
        obtain h18 : σ 18 = _ := hd 3 (by decide)
        obtain h24 : σ 24 = _ := hd 9 (by decide)
        rw [h18, h24]
        clear h18 h24
        clear hd
        go_wp2
        exact ⟨Fr.refl _ _, rfl⟩
      · intro σ w' hR hd
        simp only [fill, Nat.reduceAdd, if_true, Bool.false_eq_true, if_false]
        obtain h25 : σ 25 = _ := hd 10 (by decide)
        rw [h25]
        clear h25
        clear hd
        have hfr := (Fr.drew (Fr.refl [bk] _)).trans hR
        have c0 := hfr.cell HC.out HG.out
        go_wp2
        exact ⟨Fr.refl _ _, rfl⟩
      · intro σ w' hR hd
        simp only [fill, Nat.reduceAdd, if_true, Bool.false_eq_true, if_false]
        clear hd
        go_wp2
        exact ⟨Fr.refl _ _, rfl⟩
      · intro σ w' hR hd hH
        simp only [fill, Nat.reduceAdd, if_true, Bool.false_eq_true, if_false]
        obtain h26 : σ 26 = _ := hd 11 (by decide)
        obtain h27 : σ 27 = _ := hd 12 (by decide)
        rw [h26, h27]
        clear h26 h27
        clear hd
        have hm5 : mapIs eI vU Try.prog 3 w' bk Ls := hH
        obtain ⟨w5, hrun, hm6, htn⟩ := hm5.drop eI_inj kI Try.underlying53 (key_i hid) 0
        clear hm5
        go_wp2
        exact ⟨Fr.turned htn, trivial, hm6⟩
    · intro σ w3 hR hG hH
      simp only [fill, Nat.reduceAdd, if_true, Bool.false_eq_true, if_false]
      clear hG
      have hf3 := (Fr.drew (Fr.refl [bk] _)).trans hR
      have h3 : mapIs eI vU Try.prog 3 w3 bk (delL Ls id) := hH
      have hw3 := map_fr HW.out hf3 HBB.out
      obtain ⟨w5, hrun, hm5, htn⟩ := hw3.drop eI_inj kI Try.underlying49 (key_i hid) 0
      obtain ⟨c0, c1, c2, cf⟩ := (HB.out.fr hf3 HP.out).cells3
      have HR := Hd.mk (HDL.out w3 w5 h3 hf3 hm5 (Fr.turned htn))
      clear hR hH hf3 h3 hw3 hm5 htn
      go_wp2
      go_ret
      exact ⟨rfl, HR.out⟩
end
end Go.Proofs.Ythnbdpcbagobhaa
