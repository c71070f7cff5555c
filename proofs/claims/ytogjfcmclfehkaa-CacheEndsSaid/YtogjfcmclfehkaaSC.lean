import Derived.Test.YtogjfcmclfehkaaSB
namespace Go.Proofs.Ytogjfcmclfehkaa
open Go Go.RowKit Go.Proofs.MapL

/-- What the map tells of a question. -/
def placeV (s : SS) (q : Qn) : Int := ((s.find q).map fun k : Nat => (k : Int)).getD 0
theorem place_find {s : SS} (hU : Uq s) (q : Qn) : ((findL (whereOf s) q).map vI).getD (.int .i64 0) = .int .i64 (placeV s q) ∧ (findL (whereOf s) q).isSome = (s.find q).isSome := by
  rw [find_where hU]
  unfold placeV
  cases s.find q <;> exact ⟨rfl, rfl⟩
def keysS (s : SS) : List Qn := s.all.map (qAt s)
theorem mem_all {s : SS} {k : Nat} : k ∈ s.all ↔ ∃ a, s.l[k]? = some a ∧ a.used = true := by
  unfold SS.all SS.allTo
  rw [List.mem_filter, List.mem_range]
  constructor
  · rintro ⟨h1, h2⟩
    rw [List.getElem?_eq_getElem h1] at h2
    exact ⟨_, List.getElem?_eq_getElem h1, by simpa using h2⟩
  · rintro ⟨a, h1, h2⟩
    exact ⟨(List.getElem?_eq_some_iff.1 h1).1, by rw [h1]; simpa using h2⟩
section
variable {w w' : World} {B : ShB} {tu : Int} {s s' : SS} {X Y : List It} {M : List (Qn × Int)} {S : List Nat}
def AdvX (w : World) (B : ShB) (s : SS) (now : Int) (r : Ending) (w' : World) : Prop :=
  ∃ v, r = .returned v ∧ QRow w' w.heap.size v (dueQ s now) ∧ (dueQ s now = [] → v = .slice none 0 0) ∧ ShE w' B (dueS s now) ∧ Fr B.wr w w'
theorem advance_calls (h : ShE w B s) {now : Int} (hnow : TOk now) : Calls Try.prog 43 #[.pointer (some ⟨B.p, 0, none⟩), .int .u64 now] w (AdvX w B s now) := by
  obtain ⟨tu, h⟩ := h
  go_enter Try.func43, Try.ntmps43
  go_wp2_with fail
  refine (shdue_calls h hnow).mono ?_
  rintro r w1 ⟨v, rfl, hq, hn, h1, hf⟩
  have HR := Hd.mk (And.intro hq (And.intro hn (And.intro h1 hf)))
  clear hq hn h1 hf h
  go_wp2
  go_ret
  exact ⟨_, rfl, HR.out.1, HR.out.2.1, ⟨_, HR.out.2.2.1⟩, HR.out.2.2.2⟩
def evictS (s : SS) (q : Qn) : SS := match s.find q with | some k => s.at k Sl.none | none => s
set_option maxRecDepth 100000 in
set_option maxHeartbeats 4000000 in
theorem evict_calls (h : ShE w B s) (q : Qn) : Calls Try.prog 42 #[.pointer (some ⟨B.p, 0, none⟩), q.v] w fun r w' => r = .returned (.bool (s.find q).isSome) ∧ ShE w' B (evictS s q) ∧ Fr B.wr w w' := by
  obtain ⟨tu, h⟩ := h
  have HLT := Hd.mk h.w.lt
  have HFND0 := place_find h.uq q
  have H := Hd.mk h
  clear h
  unfold Qn.v
  go_enter Try.func42, Try.ntmps42
  go_upto_region 1 with (fail)
  refine wp_name ?_; intro w0 hw0
  have hF0 : Fr [] w w0 := alloc_of hw0
  have hbx : Blk w0 w.heap.size 33 [.string q.name, .int .u16 q.ty, .int .u16 q.cl] := blk_of (c := [.string q.name, .int .u16 q.ty, .int .u16 q.cl]) hw0
  clear hw0
  obtain ⟨x, hx⟩ : ∃ x, w.heap.size = x := ⟨_, rfl⟩
  rw [hx] at hbx ⊢
  have H0 := Hd.mk (H.out.fr0 hF0)
  have HF0 := Hd.mk hF0
  have HE := Hd.mk hbx
  have HB := Hd.mk H0.out.w.blk
  have HM := Hd.mk H0.out.w.mp
  obtain ⟨ks, hks⟩ : ∃ ks, placeV s q = ks := ⟨_, rfl⟩
  obtain ⟨ok, hok⟩ : ∃ ok, (s.find q).isSome = ok := ⟨_, rfl⟩
  rw [hks, hok] at HFND0
  have HFND := Hd.mk HFND0
  have HKS := Hd.mk hks
  have HOK := Hd.mk hok
  clear hF0 hbx hx HFND0 hks hok
  go_wp2_with fail
  refine wp_region_gs { R := Fr [], R1 := Fr [], gs := [Is (.pointer (some ⟨B.p, 0, none⟩)), Is (.pointer (some ⟨B.p, 0, none⟩)), Is (.pointer (some ⟨B.p, 2, none⟩)), Is (.map (some B.bm)), Is (.agg #[.string q.name, .int .u16 q.ty, .int .u16 q.cl]), Is (.tuple #[.int .i64 ks, .bool ok]), Is (.tuple #[.int .i64 ks, .bool ok]), Is (.int .i64 ks), Is (.bool ok), Is (.int .i64 ks), Is (.bool ok)], ds := [some 10, some 11, some 12, some 13, some 14, some 15, some 9, some 16, some 17, some 5, some 6], fl := [false, false, false, false, false, false, false, false, false, false, false], hs := [], hd := [] } [false, false, false, false, false, true, true, false, false, true, true, true, true, true, true, true, true, true, false, false, false, false, false] (by kernel_rfl) _ (by kernel_rfl) (by kernel_rfl) (by kernel_rfl) (by kernel_rfl) rfl [] (fun _ _ _ h1 h2 => h1.trans h2) (fun _ _ h => h) (staI (staI (staI (staI (staI (staI (staI (staI (staI (staI (staI sta0))))))))))) sth0 (fun _ _ h => h.size) _ (Fr.refl _ _) trivial ?_ ?_
  · refine ⟨?_, ?_, ?_, ?_, ?_, ?_, ?_, ?_, ?_, ?_, ?_, trivial⟩
    · intro σ w' hR hd
      simp only [fill, Nat.reduceAdd, if_true, Bool.false_eq_true, if_false]
      clear hd
      go_wp2
      exact ⟨Fr.refl _ _, rfl⟩
    · intro σ w' hR hd
      simp only [fill, Nat.reduceAdd, if_true, Bool.false_eq_true, if_false]
      obtain h10 : σ 10 = _ := hd 0 (by decide)
      rw [h10]
      clear h10
      clear hd
      go_wp2
      exact ⟨Fr.refl _ _, rfl⟩
    · intro σ w' hR hd
      simp only [fill, Nat.reduceAdd, if_true, Bool.false_eq_true, if_false]
      obtain h11 : σ 11 = _ := hd 1 (by decide)
      rw [h11]
      clear h11
      clear hd
      go_wp2
      exact ⟨Fr.refl _ _, rfl⟩
    · intro σ w' hR hd
      simp only [fill, Nat.reduceAdd, if_true, Bool.false_eq_true, if_false]
      obtain h12 : σ 12 = _ := hd 2 (by decide)
      rw [h12]
      clear h12
      clear hd
      obtain ⟨k0, k1, k2, kf⟩ := (HB.out.fr ((Fr.drew (Fr.refl [] _)).trans hR) (by simp)).cells3
      go_wp2
      exact ⟨Fr.refl _ _, rfl⟩
    · intro σ w' hR hd
      simp only [fill, Nat.reduceAdd, if_true, Bool.false_eq_true, if_false]
      clear hd
      obtain ⟨r0, r1, r2, rf⟩ := (HE.out.fr ((Fr.drew (Fr.refl [] _)).trans hR) (by simp)).cells3
      go_wp2
      exact ⟨Fr.refl _ _, rfl⟩
    · intro σ w' hR hd
      simp only [fill, Nat.reduceAdd, if_true, Bool.false_eq_true, if_false]
      obtain h13 : σ 13 = _ := hd 3 (by decide)
      obtain h14 : σ 14 = _ := hd 4 (by decide)
      rw [h13, h14]
      clear h13 h14
      clear hd
      have hm2 := map_fr HM.out ((Fr.drew (Fr.refl [] _)).trans hR) (by simp)
      have hrun := hm2.look_ok kq Try.underlying79 (zI w') (key_q q)
      rw [HFND.out.1, HFND.out.2] at hrun
      unfold Qn.v at hrun
      go_wp2
      exact ⟨Fr.refl _ _, rfl⟩
    · intro σ w' hR hd
      simp only [fill, Nat.reduceAdd, if_true, Bool.false_eq_true, if_false]
      obtain h15 : σ 15 = _ := hd 5 (by decide)
      rw [h15]
      clear h15
      clear hd
      go_wp2
      exact ⟨Fr.refl _ _, rfl⟩
    · intro σ w' hR hd
      simp only [fill, Nat.reduceAdd, if_true, Bool.false_eq_true, if_false]
      obtain h9 : σ 9 = _ := hd 6 (by decide)
      rw [h9]
      clear h9
      clear hd
      go_wp2
      exact ⟨Fr.refl _ _, rfl⟩
    · intro σ w' hR hd
      simp only [fill, Nat.reduceAdd, if_true, Bool.false_eq_true, if_false]
      obtain h9 : σ 9 = _ := hd 6 (by decide)
      rw [h9]
      clear h9
      clear hd
      go_wp2
      exact ⟨Fr.refl _ _, rfl⟩
    · intro σ w' hR hd
      simp only [fill, Nat.reduceAdd, if_true, Bool.false_eq_true, if_false]
      obtain h16 : σ 16 = _ := hd 7 (by decide)
      rw [h16]
      clear h16
      clear hd
      go_wp2
      exact ⟨Fr.refl _ _, rfl⟩
    · intro σ w' hR hd
      simp only [fill, Nat.reduceAdd, if_true, Bool.false_eq_true, if_false]
      obtain h17 : σ 17 = _ := hd 8 (by decide)
      rw [h17]
      clear h17
      clear hd
      go_wp2
      exact ⟨Fr.refl _ _, rfl⟩
  · intro σ w3 hR hG hH
    obtain h5 : σ 5 = _ := hG 9 (by decide)
    obtain h6 : σ 6 = _ := hG 10 (by decide)
    simp only [fill, Nat.reduceAdd, if_true, Bool.false_eq_true, if_false, h5, h6]
    clear h5 h6
    clear hG
    have HFr := Hd.mk (HF0.out.trans ((Fr.drew (Fr.refl [] _)).trans hR))
    have H1 := Hd.mk (H0.out.fr0 ((Fr.drew (Fr.refl [] _)).trans hR))
    clear hR hH
    cases hf : s.find q with
    | none =>
      have hok : ok = false := by rw [← HOK.out, hf]; rfl
      subst hok
      have HFN := Hd.mk hf
      clear hf
      go_wp2
      go_ret
      exact ⟨by rw [HFN.out]; rfl, ⟨tu, by unfold evictS; rw [HFN.out]; exact H1.out⟩, HFr.out.mono (by simp)⟩
    | some k =>
      have hok : ok = true := by rw [← HOK.out, hf]; rfl
      have hks : ks = (k : Int) := by rw [← HKS.out]; unfold placeV; rw [hf]; rfl
      subst hok hks
      obtain ⟨a, hk, hu, hq⟩ := sfind_some hf
      have HK := Hd.mk hk
      have HU := Hd.mk hu
      have HFN := Hd.mk hf
      clear hf hk hu hq
      go_wp2_with fail
      refine (drop_calls H1.out HK.out HU.out).mono ?_
      rintro r w2 ⟨rfl, h2, hf2⟩
      have H2 := Hd.mk (h2.perm (items_del (List.getElem?_eq_some_iff.1 HK.out).1))
      have HF2 := Hd.mk ((HFr.out.mono (T := B.wr) (by simp)).trans hf2)
      clear h2 hf2
      go_wp2
      go_ret
      exact ⟨by rw [HFN.out]; rfl, ⟨tu, by unfold evictS; rw [HFN.out]; exact H2.out⟩, HF2.out⟩
end
end Go.Proofs.Ytogjfcmclfehkaa
namespace Go.Proofs.Ytogjfcmclfehkaa
open Go Go.RowKit Go.Proofs.MapL

theorem get_any {w : World} {p b : Nat} {s : SS} (h : SlotsAt w p b s) (i : Int) :
    Calls Try.prog 48 #[.pointer (some ⟨p, 0, none⟩), .int .i64 i] w fun e w' => ∃ (x : En) (o : Bool), e = .returned (.tuple #[x.v, .bool o]) ∧ Fr [] w w' := by
  cases hu : s.used i with
  | false =>
    refine (get_no h i hu).mono ?_
    rintro e w' ⟨rfl, hf⟩
    exact ⟨_, _, rfl, hf⟩
  | true =>
    obtain ⟨k, a, rfl, hk, hu, -⟩ := SS.used_true hu
    refine (get_yes h k a hk hu).mono ?_
    rintro e w' ⟨rfl, hf⟩
    exact ⟨_, _, rfl, hf⟩
def lookR (s : SS) (q : Qn) (now : Int) : SS × En × Bool :=
  match s.find q with
  | none => (s, zeroEn, false)
  | some k => match s.l[k]? with
    | none => (s, zeroEn, false)
    | some a => if liveB a.x.expire now then (s.at k { a with touched := true }, a.x, true) else (s, zeroEn, false)
theorem same_touch {s : SS} {k : Nat} {a : Sl} (hk : s.l[k]? = some a) (t : Bool) : Same2 s (s.at k { a with touched := t }) := by
  refine ⟨at_len _ _ _, fun j => ?_⟩
  rw [at_get]
  by_cases hj : j = k
  · subst hj
    rw [if_pos rfl, if_pos (List.getElem?_eq_some_iff.1 hk).1, hk]; rfl
  · rw [if_neg hj]
section
variable {w w' : World} {B : ShB} {tu : Int} {s s' : SS} {X Y : List It} {M : List (Qn × Int)} {S : List Nat}
theorem ShX.touched (h : ShAt w B tu s) {k : Nat} {a : Sl} (hk : s.l[k]? = some a) {t : Bool} (hs : SlotsAt w' B.ps B.pb (s.at k { a with touched := t })) (hf : Fr [B.pb] w w') : ShAt w' B tu (s.at k { a with touched := t }) := by
  have h1 := h.w.slots hs (hf.mono (by simp))
  have hsm := same_touch hk t
  rw [← same_items hsm, ← same_where hsm] at h1
  exact ⟨h1, same_uq hsm h.uq⟩
set_option maxRecDepth 100000 in
set_option maxHeartbeats 4000000 in
theorem lookup_calls (h : ShE w B s) (q : Qn) (now : Int) : Calls Try.prog 41 #[.pointer (some ⟨B.p, 0, none⟩), q.v, .int .u64 now] w fun r w' => r = .returned (.tuple #[(lookR s q now).2.1.v, .bool (lookR s q now).2.2]) ∧ ShE w' B (lookR s q now).1 ∧ Fr B.wr w w' := by
  obtain ⟨tu, h⟩ := h
  have HLT := Hd.mk h.w.lt
  have HFND0 := place_find h.uq q
  have H := Hd.mk h
  clear h
  unfold Qn.v
  go_enter Try.func41, Try.ntmps41
  go_upto_region 1 with (fail)
  refine wp_name ?_; intro w0 hw0
  have hF0 : Fr [] w w0 := by rw [hw0]; exact ((Fr.refl [] w).alloc _).alloc _
  have hbx : Blk w0 w.heap.size 33 [.string q.name, .int .u16 q.ty, .int .u16 q.cl] := by rw [hw0]; exact (Blk.new _ _ _).alloc _
  have hbr : Blk w0 (w.heap.size + 1) 37 [.string ⟨#[]⟩, .int .u16 0, .int .u16 0, .slice none 0 0, .int .i64 0, .int .i64 0, .int .u64 0] := by
    rw [hw0]
    have h0 := Blk.new (w.alloc (.cells #[.string q.name, .int .u16 q.ty, .int .u16 q.cl] 33)) 37 [.string ⟨#[]⟩, .int .u16 0, .int .u16 0, .slice none 0 0, .int .i64 0, .int .i64 0, .int .u64 0]
    simp only [World.size_alloc] at h0
    exact h0
  clear hw0
  obtain ⟨qb, hx⟩ : ∃ qb, w.heap.size = qb := ⟨_, rfl⟩
  obtain ⟨rb, hx2⟩ : ∃ rb, qb + 1 = rb := ⟨_, rfl⟩
  rw [hx] at hbx hbr ⊢
  rw [hx2] at hbr ⊢
  have HNE : Hd (∀ x ∈ B.all, x ≠ qb ∧ x ≠ rb) := Hd.mk fun x hx => by have := HLT.out x hx; omega
  have HWR : Hd (w.heap.size ≤ rb) := Hd.mk (by omega)
  have H0 := Hd.mk (H.out.fr0 hF0)
  have HF0 := Hd.mk hF0
  have HE := Hd.mk hbx
  have HRB := Hd.mk hbr
  have HB := Hd.mk H0.out.w.blk
  have HM := Hd.mk H0.out.w.mp
  obtain ⟨ks, hks⟩ : ∃ ks, placeV s q = ks := ⟨_, rfl⟩
  obtain ⟨ok, hok⟩ : ∃ ok, (s.find q).isSome = ok := ⟨_, rfl⟩
  rw [hks, hok] at HFND0
  have HFND := Hd.mk HFND0
  have HKS := Hd.mk hks
  have HOK := Hd.mk hok
  clear hF0 hbx hbr hx hx2 HFND0 hks hok
  go_wp2_with fail
  refine wp_region_gs { R := Fr [], R1 := Fr [], gs := [Is (.pointer (some ⟨B.p, 0, none⟩)), Is (.pointer (some ⟨B.p, 0, none⟩)), Is (.pointer (some ⟨B.p, 2, none⟩)), Is (.map (some B.bm)), Is (.agg #[.string q.name, .int .u16 q.ty, .int .u16 q.cl]), Is (.tuple #[.int .i64 ks, .bool ok]), Is (.tuple #[.int .i64 ks, .bool ok]), Is (.int .i64 ks), Is (.bool ok), Is (.int .i64 ks), Is (.bool ok)], ds := [some 16, some 17, some 18, some 19, some 20, some 21, some 15, some 22, some 23, some 8, some 9], fl := [false, false, false, false, false, false, false, false, false, false, false], hs := [], hd := [] } [false, false, false, false, false, false, false, false, true, true, false, false, false, false, false, true, true, true, true, true, true, true, true, true, false, false, false, false, false, false, false, false, false, false, false, false, false, false, false, false, false, false, false, false, false, false, false, false, false, false] (by kernel_rfl) _ (by kernel_rfl) (by kernel_rfl) (by kernel_rfl) (by kernel_rfl) rfl [] (fun _ _ _ h1 h2 => h1.trans h2) (fun _ _ h => h) (staI (staI (staI (staI (staI (staI (staI (staI (staI (staI (staI sta0))))))))))) sth0 (fun _ _ h => h.size) _ (Fr.refl _ _) trivial ?_ ?_
  · refine ⟨?_, ?_, ?_, ?_, ?_, ?_, ?_, ?_, ?_, ?_, ?_, trivial⟩
    · intro σ w' hR hd
      simp only [fill, Nat.reduceAdd, if_true, Bool.false_eq_true, if_false]
      clear hd
      go_wp2
      exact ⟨Fr.refl _ _, rfl⟩
    · intro σ w' hR hd
      simp only [fill, Nat.reduceAdd, if_true, Bool.false_eq_true, if_false]
      obtain h16 : σ 16 = _ := hd 0 (by decide)
      rw [h16]
      clear h16
      clear hd
      go_wp2
      exact ⟨Fr.refl _ _, rfl⟩
    · intro σ w' hR hd
      simp only [fill, Nat.reduceAdd, if_true, Bool.false_eq_true, if_false]
      obtain h17 : σ 17 = _ := hd 1 (by decide)
      rw [h17]
      clear h17
      clear hd
      go_wp2
      exact ⟨Fr.refl _ _, rfl⟩
    · intro σ w' hR hd
      simp only [fill, Nat.reduceAdd, if_true, Bool.false_eq_true, if_false]
      obtain h18 : σ 18 = _ := hd 2 (by decide)
      rw [h18]
      clear h18
      clear hd
      obtain ⟨k0, k1, k2, kf⟩ := (HB.out.fr ((Fr.drew (Fr.refl [] _)).trans hR) (by simp)).cells3
      go_wp2
      exact ⟨Fr.refl _ _, rfl⟩
    · intro σ w' hR hd
      simp only [fill, Nat.reduceAdd, if_true, Bool.false_eq_true, if_false]
      clear hd
      obtain ⟨r0, r1, r2, rf⟩ := (HE.out.fr ((Fr.drew (Fr.refl [] _)).trans hR) (by simp)).cells3
      go_wp2
      exact ⟨Fr.refl _ _, rfl⟩
    · intro σ w' hR hd
      simp only [fill, Nat.reduceAdd, if_true, Bool.false_eq_true, if_false]
      obtain h19 : σ 19 = _ := hd 3 (by decide)
      obtain h20 : σ 20 = _ := hd 4 (by decide)
      rw [h19, h20]
      clear h19 h20
      clear hd
      have hm2 := map_fr HM.out ((Fr.drew (Fr.refl [] _)).trans hR) (by simp)
      have hrun := hm2.look_ok kq Try.underlying79 (zI w') (key_q q)
      rw [HFND.out.1, HFND.out.2] at hrun
      unfold Qn.v at hrun
      go_wp2
      exact ⟨Fr.refl _ _, rfl⟩
    · intro σ w' hR hd
      simp only [fill, Nat.reduceAdd, if_true, Bool.false_eq_true, if_false]
      obtain h21 : σ 21 = _ := hd 5 (by decide)
      rw [h21]
      clear h21
      clear hd
      go_wp2
      exact ⟨Fr.refl _ _, rfl⟩
    · intro σ w' hR hd
      simp only [fill, Nat.reduceAdd, if_true, Bool.false_eq_true, if_false]
      obtain h15 : σ 15 = _ := hd 6 (by decide)
      rw [h15]
      clear h15
      clear hd
      go_wp2
      exact ⟨Fr.refl _ _, rfl⟩
    · intro σ w' hR hd
      simp only [fill, Nat.reduceAdd, if_true, Bool.false_eq_true, if_false]
      obtain h15 : σ 15 = _ := hd 6 (by decide)
      rw [h15]
      clear h15
      clear hd
      go_wp2
      exact ⟨Fr.refl _ _, rfl⟩
    · intro σ w' hR hd
      simp only [fill, Nat.reduceAdd, if_true, Bool.false_eq_true, if_false]
      obtain h22 : σ 22 = _ := hd 7 (by decide)
      rw [h22]
      clear h22
      clear hd
      go_wp2
      exact ⟨Fr.refl _ _, rfl⟩
    · intro σ w' hR hd
      simp only [fill, Nat.reduceAdd, if_true, Bool.false_eq_true, if_false]
      obtain h23 : σ 23 = _ := hd 8 (by decide)
      rw [h23]
      clear h23
      clear hd
      go_wp2
      exact ⟨Fr.refl _ _, rfl⟩
  · intro σ w3 hR hG hH
    obtain h8 : σ 8 = _ := hG 9 (by decide)
    obtain h9 : σ 9 = _ := hG 10 (by decide)
    simp only [fill, Nat.reduceAdd, if_true, Bool.false_eq_true, if_false, h8, h9]
    clear h8 h9
    clear hG
    have HF1 := Hd.mk (HF0.out.trans ((Fr.drew (Fr.refl [] _)).trans hR))
    have H1 := Hd.mk (H0.out.fr0 ((Fr.drew (Fr.refl [] _)).trans hR))
    have HRB1 := Hd.mk (HRB.out.fr ((Fr.drew (Fr.refl [] _)).trans hR) (by simp))
    clear hR hH
    obtain ⟨k0, k1, k2, kf⟩ := H1.out.w.blk.cells3
    cases hf : s.find q with
    | none =>
      have hok : ok = false := by rw [← HOK.out, hf]; rfl
      subst hok
      have HLK : Hd (lookR s q now = (s, zeroEn, false)) := Hd.mk (by unfold lookR; rw [hf])
      clear hf
      go_wp2_with fail
      refine (get_any H1.out.w.sl ks).mono ?_
      rintro r w4 ⟨x, o, rfl, hf4⟩
      have HF4 := Hd.mk (HF1.out.trans hf4)
      have H4 := Hd.mk (H1.out.fr0 hf4)
      have HRB4 := Hd.mk (HRB1.out.fr hf4 (by simp))
      clear hf4 k0 k1 k2 kf
      unfold En.v
      go_upto_region 5 with (fail)
      refine wp_name ?_; intro w5 hw5
      have hf5 := alloc_of hw5
      clear hw5
      have HF5 := Hd.mk ((HF4.out.trans hf5).mono (T := B.wr) (by simp))
      have H5 := Hd.mk (H4.out.fr0 hf5)
      have HRB5 := Hd.mk (HRB4.out.fr hf5 (by simp))
      clear hf5
      obtain ⟨y0, y1, y2, y3, y4, y5, y6, yf⟩ := HRB5.out.cells7
      have hwr := HWR.out
      go_wp2
      refine ret_name ?_; intro w9 hw9
      obtain ⟨h9, f9⟩ := Blk.seven HRB5.out hw9
      clear hw9
      obtain ⟨y0, y1, y2, y3, y4, y5, y6, -⟩ := h9.cells7
      have hsh9 := H5.out.fr f9 (fun x hx => by have := (HNE.out x hx).2; simp; omega)
      refine bodyPost_ret (v := .tuple #[zeroEn.v, .bool false]) (by simp [results, Try.results41, go_sem, y0, y1, y2, y3, y4, y5, y6, zeroEn, En.v]) rfl ⟨by rw [HLK.out], ⟨tu, by rw [HLK.out]; exact hsh9⟩, HF5.out.weak f9 (by simp; omega)⟩
    | some k =>
      have hok : ok = true := by rw [← HOK.out, hf]; rfl
      have hks : ks = (k : Int) := by rw [← HKS.out]; unfold placeV; rw [hf]; rfl
      subst hok hks
      obtain ⟨a, hk, hu, hq⟩ := sfind_some hf
      have hlk : lookR s q now = if liveB a.x.expire now then (s.at k { a with touched := true }, a.x, true) else (s, zeroEn, false) := by unfold lookR; rw [hf]; simp only [hk]
      have HK := Hd.mk hk
      have HU := Hd.mk hu
      have HLK0 := Hd.mk hlk
      clear hf hk hu hq hlk
      go_wp2_with fail
      refine (get_yes H1.out.w.sl k a HK.out HU.out).mono ?_
      rintro r w4 ⟨rfl, hf4⟩
      have HF4 := Hd.mk (HF1.out.trans hf4)
      have H4 := Hd.mk (H1.out.fr0 hf4)
      have HRB4 := Hd.mk (HRB1.out.fr hf4 (by simp))
      clear hf4 k0 k1 k2 kf
      unfold En.v
      go_upto_region 5 with (fail)
      refine wp_name ?_; intro w5 hw5
      have hf5 := alloc_of hw5
      have hbe : Blk w5 w4.heap.size 37 [.string a.x.q.name, .int .u16 a.x.q.ty, .int .u16 a.x.q.cl, .slice a.x.ra a.x.rn a.x.rc, .int .i64 a.x.rcode, .int .i64 a.x.rank, .int .u64 a.x.expire] := blk_of (c := [.string a.x.q.name, .int .u16 a.x.q.ty, .int .u16 a.x.q.cl, .slice a.x.ra a.x.rn a.x.rc, .int .i64 a.x.rcode, .int .i64 a.x.rank, .int .u64 a.x.expire]) hw5
      clear hw5
      have HLTN : Hd (∀ y ∈ B.all, y ≠ w4.heap.size) := Hd.mk fun y hy => by have := H4.out.w.lt y hy; omega
      obtain ⟨eb, heb⟩ : ∃ eb, w4.heap.size = eb := ⟨_, rfl⟩
      rw [heb] at hbe HLTN ⊢
      have HF5 := Hd.mk ((HF4.out.trans hf5).mono (T := B.wr) (by simp))
      have H5 := Hd.mk (H4.out.fr0 hf5)
      have HRB5 := Hd.mk (HRB4.out.fr hf5 (by simp))
      have HBE := Hd.mk hbe
      clear hf5 hbe heb
      obtain ⟨r0, r1, r2, r3, r4, r5, r6, rf⟩ := HBE.out.cells7
      go_wp2_with fail
      refine (live_calls a.x.expire now _).mono ?_
      rintro r w6 ⟨rfl, hw6⟩
      subst hw6
      have hwr := HWR.out
      cases hlv : liveB a.x.expire now with
      | false =>
        have HLK : Hd (lookR s q now = (s, zeroEn, false)) := Hd.mk (by rw [HLK0.out, hlv]; rfl)
        clear hlv r0 r1 r2 r3 r4 r5 r6 rf
        obtain ⟨y0, y1, y2, y3, y4, y5, y6, yf⟩ := HRB5.out.cells7
        go_wp2
        refine ret_name ?_; intro w9 hw9
        obtain ⟨h9, f9⟩ := Blk.seven HRB5.out hw9
        clear hw9
        obtain ⟨y0, y1, y2, y3, y4, y5, y6, -⟩ := h9.cells7
        have hsh9 := H5.out.fr f9 (fun x hx => by have := (HNE.out x hx).2; simp; omega)
        refine bodyPost_ret (v := .tuple #[zeroEn.v, .bool false]) (by simp [results, Try.results41, go_sem, y0, y1, y2, y3, y4, y5, y6, zeroEn, En.v]) rfl ⟨by rw [HLK.out], ⟨tu, by rw [HLK.out]; exact hsh9⟩, HF5.out.weak f9 (by simp; omega)⟩
      | true =>
        have HLK : Hd (lookR s q now = (s.at k { a with touched := true }, a.x, true)) := Hd.mk (by rw [HLK0.out, hlv]; rfl)
        clear hlv r0 r1 r2 r3 r4 r5 r6 rf
        obtain ⟨k0, k1, k2, kf⟩ := H5.out.w.blk.cells3
        go_wp2_with fail
        refine (touch_yes H5.out.w.sl k a HK.out HU.out).mono ?_
        rintro r w7 ⟨rfl, hs7, hf7⟩
        have H7 := Hd.mk (H5.out.touched HK.out hs7 hf7)
        have HF7 := Hd.mk (HF5.out.trans (hf7.mono (T := B.wr) (by simp [ShB.wr])))
        have HRB7 := Hd.mk (HRB5.out.fr hf7 (by have := (HNE.out B.pb (by simp [ShB.all])).2; simp; omega))
        have HBE7 := Hd.mk (HBE.out.fr hf7 (by have := HLTN.out B.pb (by simp [ShB.all]); simp; omega))
        clear hs7 hf7 k0 k1 k2 kf
        obtain ⟨r0, r1, r2, r3, r4, r5, r6, rf⟩ := HBE7.out.cells7
        obtain ⟨y0, y1, y2, y3, y4, y5, y6, yf⟩ := HRB7.out.cells7
        go_wp2
        refine ret_name ?_; intro w9 hw9
        obtain ⟨h9, f9⟩ := Blk.seven HRB7.out hw9
        clear hw9
        obtain ⟨y0, y1, y2, y3, y4, y5, y6, -⟩ := h9.cells7
        have hsh9 := H7.out.fr f9 (fun x hx => by have := (HNE.out x hx).2; simp; omega)
        refine bodyPost_ret (v := .tuple #[a.x.v, .bool true]) (by simp [results, Try.results41, go_sem, y0, y1, y2, y3, y4, y5, y6, En.v]) rfl ⟨by rw [HLK.out], ⟨tu, by rw [HLK.out]; exact hsh9⟩, HF7.out.weak f9 (by simp; omega)⟩
end
end Go.Proofs.Ytogjfcmclfehkaa
namespace Go.Proofs.Ytogjfcmclfehkaa
open Go Go.RowKit Go.Proofs.MapL

def newS (n : Nat) : SS := ⟨List.replicate n Sl.none, 0⟩
theorem newS_used {n : Nat} : ∀ (k : Nat) (a : Sl), (newS n).l[k]? = some a → a.used = false := by
  intro k a h
  have := List.mem_of_getElem? h
  rw [List.eq_of_mem_replicate this]; rfl
theorem newS_items (n : Nat) : itemsOf (newS n) = [] := by
  rw [List.eq_nil_iff_forall_not_mem]
  intro x hx
  obtain ⟨k, a, hk, hu, -⟩ := mem_items.1 hx
  rw [newS_used k a hk] at hu; cases hu
theorem newS_where (n : Nat) : whereOf (newS n) = [] := by
  rw [List.eq_nil_iff_forall_not_mem]
  intro x hx
  obtain ⟨k, a, hk, hu, -⟩ := mem_where.1 hx
  rw [newS_used k a hk] at hu; cases hu
theorem newS_uq (n : Nat) : Uq (newS n) := by
  intro i j a b hi hj hu hv e
  rw [newS_used i a hi] at hu; cases hu
section
variable {w w' : World} {B : ShB} {tu : Int} {s s' : SS} {X Y : List It} {M : List (Qn × Int)} {S : List Nat}
set_option maxRecDepth 100000 in
set_option maxHeartbeats 4000000 in
theorem shnew_calls (room size : Nat) (h1 : 1 ≤ room) (h2 : room ≤ 64) (h3 : 1 ≤ size) (h4 : size ≤ 256) (w : World) :
    Calls Try.prog 18 #[.int .i64 room, .int .i64 size] w fun r w' => ∃ B : ShB, r = .returned (.pointer (some ⟨B.p, 0, none⟩)) ∧ ShE w' B (newS room) ∧ Fr [] w w' ∧ ∀ x ∈ B.all, w.heap.size ≤ x := by
  have hmm := @run_makeMap Try.prog
  go_enter Try.func18, Try.ntmps18
  go_wp2_with fail
  refine (snew_yes room h1 h2 _).mono ?_
  rintro r w1 ⟨ps, pb, rfl, hs1, hf1, hps, hpb⟩
  have HS1 := Hd.mk hs1
  have HF1 := Hd.mk hf1
  have HG1 : Hd (w.heap.size ≤ ps ∧ w.heap.size ≤ pb ∧ ps < w1.heap.size ∧ pb < w1.heap.size) := Hd.mk ⟨hps, hpb, hs1.own.lt, hs1.row.lt⟩
  clear hs1 hf1 hps hpb
  go_wp2_with fail
  refine (new_calls size (by omega) (by omega) _).mono ?_
  rintro r w2 ⟨pw, g, b, c, bs, rfl, hw2, -, hf2, hge⟩
  have HW2 := Hd.mk hw2
  have HS2 := Hd.mk (HS1.out.fr0 hf2)
  have HF2 := Hd.mk (HF1.out.trans hf2)
  have HG2 := Hd.mk hge
  have HLT2 := Hd.mk hw2.lt
  have HZ2 := Hd.mk hf2.size
  clear hw2 hf2 hge
  go_upto_region 2 with (fail)
  refine wp_name ?_; intro w3 hw3
  have hm0 := mapIs_made Qn.lit vI Try.prog 33 w2
  have hF3 : Fr [] w2 w3 := by rw [hw3]; exact ((Fr.refl [] w2).alloc _).alloc _
  have hm3 : mapIs Qn.lit vI Try.prog 33 w3 w2.heap.size [] := by
    rw [hw3]
    exact map_fr hm0 ((Fr.refl [] _).alloc _) (by simp)
  have hb3 : Blk w3 (w2.heap.size + 1) 81 [.pointer (some ⟨ps, 0, none⟩), .pointer (some ⟨pw, 0, none⟩), .map (some w2.heap.size)] := by
    rw [hw3]
    have h0 := Blk.new (w2.alloc (.map #[] 0)) 81 [.pointer (some ⟨ps, 0, none⟩), .pointer (some ⟨pw, 0, none⟩), .map (some w2.heap.size)]
    simpa using h0
  clear hw3 hm0
  have HFIN : Hd (ShE w3 ⟨w2.heap.size + 1, ps, pb, pw, g, b, c, bs, w2.heap.size⟩ (newS room) ∧ Fr [] w w3 ∧ ∀ x ∈ (ShB.mk (w2.heap.size + 1) ps pb pw g b c bs w2.heap.size).all, w.heap.size ≤ x) := Hd.mk (by
    have e1 := HG1.out
    have e2 := HF2.out.size
    have e3 := HZ2.out
    have e4 := HF1.out.size
    refine ⟨⟨0, ⟨⟨hb3, HS2.out.fr0 hF3, by rw [newS_items]; exact HW2.out.fr0 hF3, by rw [newS_where]; exact hm3, fun x hx => ?_⟩, newS_uq room⟩⟩, HF2.out.trans hF3, fun x hx => ?_⟩
    · have e5 := HG2.out x hx
      have e6 := HLT2.out x hx
      dsimp only
      omega
    · simp only [ShB.all, List.mem_cons] at hx
      rcases hx with rfl | rfl | rfl | rfl | hx
      · omega
      · exact e1.1
      · exact e1.2.1
      · omega
      · have e5 := HG2.out x hx
        omega)
  obtain ⟨p, hp⟩ : ∃ p, w2.heap.size + 1 = p := ⟨_, rfl⟩
  rw [hp] at hb3 HFIN ⊢
  obtain ⟨k0, k1, k2, kf⟩ := hb3.cells3
  clear hb3 hm3 hp hF3
  go_wp2
  go_ret
  exact ⟨_, rfl, HFIN.out⟩
end
end Go.Proofs.Ytogjfcmclfehkaa
namespace Go.Proofs.Ytogjfcmclfehkaa
open Go Go.RowKit Go.Proofs.MapL

section
variable {s : SS} {now : Int}
theorem roomS_sub (hh : s.hand < s.l.length) : ∀ (j : Nat) (a : Sl), (roomS s now).l[j]? = some a → a.used = true → ∃ b, s.l[j]? = some b ∧ b.used = true ∧ b.x = a.x := by
  intro j a h hu
  unfold roomS at h
  split at h
  · exact ⟨a, h, hu, rfl⟩
  · split at h
    · unfold dueS at h
      rw [clr_get] at h
      split at h
      · cases hs : s.l[j]? with
        | none => simp [hs] at h
        | some b => simp [hs] at h; subst h; cases hu
      · exact ⟨a, h, hu, rfl⟩
    · rw [at_get] at h
      split at h
      · split at h
        · cases h; cases hu
        · cases h
      · obtain ⟨b, h1, h2, h3⟩ := same_get (vic_same _ s hh) h
        exact ⟨b, h1, h3.trans hu, h2⟩
theorem roomS_uq (hh : s.hand < s.l.length) (hU : Uq s) : Uq (roomS s now) := by
  intro i j a b hi hj hu hv e
  obtain ⟨a', hi', hu', ea⟩ := roomS_sub hh i a hi hu
  obtain ⟨b', hj', hv', eb⟩ := roomS_sub hh j b hj hv
  exact hU i j a' b' hi' hj' hu' hv' (by rw [ea, eb]; exact e)
theorem all_full (h : ∀ (j : Nat) (a : Sl), s.l[j]? = some a → a.used = true) : s.all.length = s.l.length := by
  unfold SS.all SS.allTo
  rw [List.filter_eq_self.2, List.length_range]
  intro k hk
  have hk := List.mem_range.1 hk
  rw [List.getElem?_eq_getElem hk]
  simpa using h k _ (List.getElem?_eq_getElem hk)
theorem roomS_free (hh : s.hand < s.l.length) : ∃ (j : Nat) (a : Sl), (roomS s now).l[j]? = some a ∧ a.used = false := by
  unfold roomS
  split
  · rename_i hlt
    apply Classical.byContradiction
    intro hn
    have := all_full (s := s) fun j a hj => by
      cases hu : a.used with
      | true => rfl
      | false => exact absurd ⟨j, a, hj, hu⟩ hn
    omega
  · rename_i hlt
    split
    · rename_i hd
      unfold dueQ at hd
      rw [List.length_map] at hd
      obtain ⟨k, hk⟩ := List.exists_mem_of_length_pos hd
      obtain ⟨a, ha, -, -⟩ := mem_dueK.1 hk
      refine ⟨k, Sl.none, ?_, rfl⟩
      unfold dueS
      rw [clr_get, if_pos hk, ha]; rfl
    · have hal : 0 < s.all.length := by omega
      have hv := SS.victim_pos hh hal
      obtain ⟨s9, i9, b9, hv9⟩ : ∃ s9 i9 b9, s.victim = (s9, i9, b9) := ⟨_, _, _, rfl⟩
      rw [hv9] at hv ⊢
      obtain rfl : b9 = true := hv
      obtain ⟨a9, ha9, -⟩ := vic_used _ _ _ _ hh hv9
      exact ⟨i9, Sl.none, by rw [at_get, if_pos rfl, if_pos (List.getElem?_eq_some_iff.1 ha9).1], rfl⟩
def freeK (s : SS) : Nat := (s.l.findIdx? fun a => !a.used).getD 0
theorem freeK_spec {s1 : SS} (h : ∃ (j : Nat) (a : Sl), s1.l[j]? = some a ∧ a.used = false) : ∃ a, s1.l[freeK s1]? = some a ∧ a.used = false ∧ ∀ j, j < freeK s1 → ∃ b, s1.l[j]? = some b ∧ b.used = true := by
  unfold freeK
  cases hf : s1.l.findIdx? fun a => !a.used with
  | none =>
    obtain ⟨j, a, ha, hu⟩ := h
    rw [List.findIdx?_eq_none_iff] at hf
    have := hf a (List.mem_of_getElem? ha)
    simp [hu] at this
  | some k =>
    obtain ⟨hk, h2, h3⟩ := List.findIdx?_eq_some_iff_getElem.1 hf
    refine ⟨s1.l[k], by simp [hk], by simpa using h2, fun j hj => ?_⟩
    have hj : j < k := hj
    have := h3 j hj
    exact ⟨s1.l[j], List.getElem?_eq_getElem (by omega), by simpa using this⟩
/-- What an insertion makes, who goes, and the error. -/
def insR (s : SS) (e : En) (now : Int) : SS × List Qn × Int :=
  if liveB e.expire now then
    match s.find e.q with
    | some k => match s.l[k]? with
      | some a => if beatsB a.x e now then (s.at k ⟨e, true, true⟩, [], 0) else (s, [], 7)
      | none => (s, [], 0)
    | none => ((roomS s now).at (freeK (roomS s now)) ⟨e, true, false⟩, goneQ s now, 0)
  else (s, [], 4)
end
section
variable {w w' : World} {B : ShB} {tu : Int} {s s' : SS} {X Y : List It} {M : List (Qn × Int)} {S : List Nat}
def InsX (w : World) (B : ShB) (s : SS) (e : En) (now : Int) (r : Ending) (w' : World) : Prop :=
  ∃ v, r = .returned (.tuple #[v, .int .i64 (insR s e now).2.2]) ∧ QRow w' w.heap.size v (insR s e now).2.1 ∧ ((insR s e now).2.1 = [] → v = .slice none 0 0) ∧ ShE w' B (insR s e now).1 ∧ Fr B.wr w w'
set_option maxRecDepth 100000 in
set_option maxHeartbeats 8000000 in
theorem shinsert_calls (h : ShE w B s) (e : En) (he : TOk e.expire) {now : Int} (hnow : TOk now) : Calls Try.prog 40 #[.pointer (some ⟨B.p, 0, none⟩), e.v, .int .u64 now] w (InsX w B s e now) := by
  obtain ⟨tu, h⟩ := h
  have HLT := Hd.mk h.w.lt
  have HFND0 := place_find h.uq e.q
  have H := Hd.mk h
  have HEX := Hd.mk he
  have HNOW := Hd.mk hnow
  clear h he hnow
  unfold En.v
  go_enter Try.func40, Try.ntmps40
  go_upto_region 1 with (fail)
  refine wp_name ?_; intro w0 hw0
  have hF0 : Fr [] w w0 := alloc_of hw0
  have hbx : Blk w0 w.heap.size 37 [.string e.q.name, .int .u16 e.q.ty, .int .u16 e.q.cl, .slice e.ra e.rn e.rc, .int .i64 e.rcode, .int .i64 e.rank, .int .u64 e.expire] := blk_of (c := [.string e.q.name, .int .u16 e.q.ty, .int .u16 e.q.cl, .slice e.ra e.rn e.rc, .int .i64 e.rcode, .int .i64 e.rank, .int .u64 e.expire]) hw0
  clear hw0
  obtain ⟨x, hx⟩ : ∃ x, w.heap.size = x := ⟨_, rfl⟩
  rw [hx] at hbx ⊢
  have HNE : Hd (∀ y ∈ B.all, y ≠ x) := Hd.mk fun y hy => by have := HLT.out y hy; omega
  have H0 := Hd.mk (H.out.fr0 hF0)
  have HF0 := Hd.mk hF0
  have HE := Hd.mk hbx
  clear hF0 hbx
  obtain ⟨r0, r1, r2, r3, r4, r5, r6, rf⟩ := HE.out.cells7
  have HX := Hd.mk hx
  clear hx
  go_wp2_with fail
  clear r0 r1 r2 r3 r4 r5 r6 rf
  refine (live_calls e.expire now _).mono ?_
  rintro r w1 ⟨rfl, hw1⟩
  subst hw1
  cases hlv : liveB e.expire now with
  | false =>
    have HI : Hd (insR s e now = (s, [], 4)) := Hd.mk (by unfold insR; rw [hlv]; rfl)
    clear hlv
    go_wp2
    go_ret2
    exact ⟨_, by rw [HI.out]; exact rfl, by rw [HI.out]; exact World.ownsRow_nil _ _ _ _, fun _ => rfl, by rw [HI.out]; exact ⟨tu, H0.out⟩, HF0.out.mono (by simp)⟩
  | true =>
  have HLV := Hd.mk hlv
  clear hlv
  have HB := Hd.mk H0.out.w.blk
  have HM := Hd.mk H0.out.w.mp
  obtain ⟨ks, hks⟩ : ∃ ks, placeV s e.q = ks := ⟨_, rfl⟩
  obtain ⟨ok, hok⟩ : ∃ ok, (s.find e.q).isSome = ok := ⟨_, rfl⟩
  rw [hks, hok] at HFND0
  have HFND := Hd.mk HFND0
  have HKS := Hd.mk hks
  have HOK := Hd.mk hok
  clear HFND0 hks hok
  go_wp2_with fail
  refine wp_region_gs { R := Fr [], R1 := Fr [], gs := [Is (.pointer (some ⟨B.p, 0, none⟩)), Is (.pointer (some ⟨B.p, 0, none⟩)), Is (.pointer (some ⟨B.p, 2, none⟩)), Is (.map (some B.bm)), Is (.pointer (some ⟨x, 0, none⟩)), Is (.agg #[.string e.q.name, .int .u16 e.q.ty, .int .u16 e.q.cl]), Is (.tuple #[.int .i64 ks, .bool ok]), Is (.tuple #[.int .i64 ks, .bool ok]), Is (.int .i64 ks), Is (.bool ok), Is (.int .i64 ks), Is (.bool ok)], ds := [some 25, some 26, some 27, some 28, some 29, some 30, some 31, some 24, some 32, some 33, some 8, some 9], fl := [false, false, false, false, false, false, false, false, false, false, false, false], hs := [], hd := [] } [false, false, false, false, false, false, false, false, true, true, false, false, false, false, false, false, false, false, false, false, false, false, false, false, true, true, true, true, true, true, true, true, true, true, false, false, false, false, false, false, false, false, false, false, false, false, false, false, false, false, false, false, false, false, false, false, false, false, false, false, false, false, false, false, false, false, false, false, false, false] (by kernel_rfl) _ (by kernel_rfl) (by kernel_rfl) (by kernel_rfl) (by kernel_rfl) rfl [] (fun _ _ _ h1 h2 => h1.trans h2) (fun _ _ h => h) (staI (staI (staI (staI (staI (staI (staI (staI (staI (staI (staI (staI sta0)))))))))))) sth0 (fun _ _ h => h.size) _ (Fr.refl _ _) trivial ?_ ?_
  · refine ⟨?_, ?_, ?_, ?_, ?_, ?_, ?_, ?_, ?_, ?_, ?_, ?_, trivial⟩
    · intro σ w' hR hd
      simp only [fill, Nat.reduceAdd, if_true, Bool.false_eq_true, if_false]
      clear hd
      go_wp2
      exact ⟨Fr.refl _ _, rfl⟩
    · intro σ w' hR hd
      simp only [fill, Nat.reduceAdd, if_true, Bool.false_eq_true, if_false]
      obtain h25 : σ 25 = _ := hd 0 (by decide)
      rw [h25]
      clear h25
      clear hd
      go_wp2
      exact ⟨Fr.refl _ _, rfl⟩
    · intro σ w' hR hd
      simp only [fill, Nat.reduceAdd, if_true, Bool.false_eq_true, if_false]
      obtain h26 : σ 26 = _ := hd 1 (by decide)
      rw [h26]
      clear h26
      clear hd
      go_wp2
      exact ⟨Fr.refl _ _, rfl⟩
    · intro σ w' hR hd
      simp only [fill, Nat.reduceAdd, if_true, Bool.false_eq_true, if_false]
      obtain h27 : σ 27 = _ := hd 2 (by decide)
      rw [h27]
      clear h27
      clear hd
      obtain ⟨k0, k1, k2, kf⟩ := (HB.out.fr ((Fr.drew (Fr.refl [] _)).trans hR) (by simp)).cells3
      go_wp2
      exact ⟨Fr.refl _ _, rfl⟩
    · intro σ w' hR hd
      simp only [fill, Nat.reduceAdd, if_true, Bool.false_eq_true, if_false]
      clear hd
      go_wp2
      exact ⟨Fr.refl _ _, rfl⟩
    · intro σ w' hR hd
      simp only [fill, Nat.reduceAdd, if_true, Bool.false_eq_true, if_false]
      obtain h29 : σ 29 = _ := hd 4 (by decide)
      rw [h29]
      clear h29
      clear hd
      obtain ⟨r0, r1, r2, r3, r4, r5, r6, rf⟩ := (HE.out.fr ((Fr.drew (Fr.refl [] _)).trans hR) (by simp)).cells7
      go_wp2
      exact ⟨Fr.refl _ _, rfl⟩
    · intro σ w' hR hd
      simp only [fill, Nat.reduceAdd, if_true, Bool.false_eq_true, if_false]
      obtain h28 : σ 28 = _ := hd 3 (by decide)
      obtain h30 : σ 30 = _ := hd 5 (by decide)
      rw [h28, h30]
      clear h28 h30
      clear hd
      have hm2 := map_fr HM.out ((Fr.drew (Fr.refl [] _)).trans hR) (by simp)
      have hrun := hm2.look_ok kq Try.underlying79 (zI w') (key_q e.q)
      rw [HFND.out.1, HFND.out.2] at hrun
      unfold Qn.v at hrun
      go_wp2
      exact ⟨Fr.refl _ _, rfl⟩
    · intro σ w' hR hd
      simp only [fill, Nat.reduceAdd, if_true, Bool.false_eq_true, if_false]
      obtain h31 : σ 31 = _ := hd 6 (by decide)
      rw [h31]
      clear h31
      clear hd
      go_wp2
      exact ⟨Fr.refl _ _, rfl⟩
    · intro σ w' hR hd
      simp only [fill, Nat.reduceAdd, if_true, Bool.false_eq_true, if_false]
      obtain h24 : σ 24 = _ := hd 7 (by decide)
      rw [h24]
      clear h24
      clear hd
      go_wp2
      exact ⟨Fr.refl _ _, rfl⟩
    · intro σ w' hR hd
      simp only [fill, Nat.reduceAdd, if_true, Bool.false_eq_true, if_false]
      obtain h24 : σ 24 = _ := hd 7 (by decide)
      rw [h24]
      clear h24
      clear hd
      go_wp2
      exact ⟨Fr.refl _ _, rfl⟩
    · intro σ w' hR hd
      simp only [fill, Nat.reduceAdd, if_true, Bool.false_eq_true, if_false]
      obtain h32 : σ 32 = _ := hd 8 (by decide)
      rw [h32]
      clear h32
      clear hd
      go_wp2
      exact ⟨Fr.refl _ _, rfl⟩
    · intro σ w' hR hd
      simp only [fill, Nat.reduceAdd, if_true, Bool.false_eq_true, if_false]
      obtain h33 : σ 33 = _ := hd 9 (by decide)
      rw [h33]
      clear h33
      clear hd
      go_wp2
      exact ⟨Fr.refl _ _, rfl⟩
  · intro σ w3 hR hG hH
    obtain h8 : σ 8 = _ := hG 10 (by decide)
    obtain h9 : σ 9 = _ := hG 11 (by decide)
    simp only [fill, Nat.reduceAdd, if_true, Bool.false_eq_true, if_false, h8, h9]
    clear h8 h9
    clear hG
    have HF1 := Hd.mk (HF0.out.trans ((Fr.drew (Fr.refl [] _)).trans hR))
    have H1 := Hd.mk (H0.out.fr0 ((Fr.drew (Fr.refl [] _)).trans hR))
    have HE1 := Hd.mk (HE.out.fr ((Fr.drew (Fr.refl [] _)).trans hR) (by simp))
    clear hR hH
    cases hf : s.find e.q with
    | some k =>
      have hok : ok = true := by rw [← HOK.out, hf]; rfl
      have hks : ks = (k : Int) := by rw [← HKS.out]; unfold placeV; rw [hf]; rfl
      subst hok hks
      obtain ⟨a, hk, hu, hq⟩ := sfind_some hf
      have hlk : insR s e now = if beatsB a.x e now then (s.at k ⟨e, true, true⟩, [], 0) else (s, [], 7) := by unfold insR; rw [if_pos HLV.out, hf]; simp only [hk]
      have HK := Hd.mk hk
      have HU := Hd.mk hu
      have HQ := Hd.mk hq
      have HI0 := Hd.mk hlk
      clear hf hk hu hq hlk
      obtain ⟨k0, k1, k2, kf⟩ := H1.out.w.blk.cells3
      go_wp2_with fail
      clear k0 k1 k2 kf
      refine (get_yes H1.out.w.sl k a HK.out HU.out).mono ?_
      rintro r w4 ⟨rfl, hf4⟩
      have HF4 := Hd.mk (HF1.out.trans hf4)
      have H4 := Hd.mk (H1.out.fr0 hf4)
      have HE4 := Hd.mk (HE1.out.fr hf4 (by simp))
      clear hf4
      unfold En.v
      go_upto_region 8 with (fail)
      refine wp_name ?_; intro w5 hw5
      have hf5 := alloc_of hw5
      have hbo : Blk w5 w4.heap.size 37 [.string a.x.q.name, .int .u16 a.x.q.ty, .int .u16 a.x.q.cl, .slice a.x.ra a.x.rn a.x.rc, .int .i64 a.x.rcode, .int .i64 a.x.rank, .int .u64 a.x.expire] := blk_of (c := [.string a.x.q.name, .int .u16 a.x.q.ty, .int .u16 a.x.q.cl, .slice a.x.ra a.x.rn a.x.rc, .int .i64 a.x.rcode, .int .i64 a.x.rank, .int .u64 a.x.expire]) hw5
      clear hw5
      obtain ⟨ob, hob⟩ : ∃ ob, w4.heap.size = ob := ⟨_, rfl⟩
      rw [hob] at hbo ⊢
      have HF5 := Hd.mk (HF4.out.trans hf5)
      have H5 := Hd.mk (H4.out.fr0 hf5)
      have HE5 := Hd.mk (HE4.out.fr hf5 (by simp))
      have HO5 := Hd.mk hbo
      clear hf5 hbo hob
      obtain ⟨r0, r1, r2, r3, r4, r5, r6, rf⟩ := HE5.out.cells7
      obtain ⟨o0, o1, o2, o3, o4, o5, o6, of_⟩ := HO5.out.cells7
      go_wp2_with fail
      clear r0 r1 r2 r3 r4 r5 r6 rf o0 o1 o2 o3 o4 o5 o6 of_
      refine (beats_calls a.x e now _).mono ?_
      rintro r w6 ⟨rfl, hf6⟩
      have HF6 := Hd.mk (HF5.out.trans hf6)
      have H6 := Hd.mk (H5.out.fr0 hf6)
      have HE6 := Hd.mk (HE5.out.fr hf6 (by simp))
      clear hf6
      cases hbt : beatsB a.x e now with
      | false =>
        have HI : Hd (insR s e now = (s, [], 7)) := Hd.mk (by rw [HI0.out, hbt]; rfl)
        clear hbt
        go_wp2
        go_ret2
        exact ⟨_, by rw [HI.out]; exact rfl, by rw [HI.out]; exact World.ownsRow_nil _ _ _ _, fun _ => rfl, by rw [HI.out]; exact ⟨tu, H6.out⟩, HF6.out.mono (by simp)⟩
      | true =>
        have HI : Hd (insR s e now = (s.at k ⟨e, true, true⟩, [], 0)) := Hd.mk (by rw [HI0.out, hbt]; rfl)
        clear hbt
        obtain ⟨r0, r1, r2, r3, r4, r5, r6, rf⟩ := HE6.out.cells7
        go_wp2_with fail
        clear r0 r1 r2 r3 r4 r5 r6 rf
        refine (replace_calls ⟨tu, H6.out⟩ HK.out HU.out e HQ.out HEX.out).mono ?_
        rintro r w7 ⟨rfl, h7, hf7⟩
        have H7 := Hd.mk h7
        have HF7 := Hd.mk ((HF6.out.mono (T := B.wr) (by simp)).trans hf7)
        clear h7 hf7
        go_wp2
        go_ret2
        exact ⟨_, by rw [HI.out]; exact rfl, by rw [HI.out]; exact World.ownsRow_nil _ _ _ _, fun _ => rfl, by rw [HI.out]; exact H7.out, HF7.out⟩
    | none =>
      have hok : ok = false := by rw [← HOK.out, hf]; rfl
      subst hok
      have HI : Hd (insR s e now = ((roomS s now).at (freeK (roomS s now)) ⟨e, true, false⟩, goneQ s now, 0)) := Hd.mk (by unfold insR; rw [if_pos HLV.out, hf])
      have HFN := Hd.mk (sfind_none hf)
      clear hf
      go_wp2_with fail
      refine (room_calls ⟨tu, H1.out⟩ HNOW.out).mono ?_
      rintro r w4 ⟨v, rfl, hq4, hn4, ⟨tu4, h4⟩, hf4⟩
      have HF4 := Hd.mk ((HF1.out.mono (T := B.wr) (by simp)).trans hf4)
      have HQ4 := Hd.mk (own_base hq4 HF1.out.size)
      have HN4 := Hd.mk hn4
      have H4 := Hd.mk h4
      have HE4 := Hd.mk (HE1.out.fr hf4 (fun hx => HNE.out x (B.wr_all x hx) rfl))
      have hh := H.out.w.sl.hand
      have HSUB := Hd.mk (roomS_sub (now := now) hh)
      have hfree := freeK_spec (roomS_free (now := now) hh)
      obtain ⟨s1, hs1⟩ : ∃ s1, roomS s now = s1 := ⟨_, rfl⟩
      rw [hs1] at H4 HSUB HI hfree
      obtain ⟨k, hkk⟩ : ∃ k, freeK s1 = k := ⟨_, rfl⟩
      rw [hkk] at hfree HI
      obtain ⟨a1, hk1, hu1, hmin⟩ := hfree
      have HK1 := Hd.mk hk1
      have HU1 := Hd.mk hu1
      have HMIN := Hd.mk hmin
      have HKL := Hd.mk (List.getElem?_eq_some_iff.1 hk1).1
      have hl64 := H4.out.w.sl.len
      have HXL : Hd ((itemsOf s1).length < 1000000) := Hd.mk (by have := items_len s1; omega)
      have HML : Hd ((whereOf s1).length < 1000000) := Hd.mk (by have := where_len2 s1; omega)
      clear hq4 hn4 h4 hf4 hh hs1 hkk hk1 hu1 hmin hl64 HB HM HE
      have HB := Hd.mk H4.out.w.blk
      have HPM : Hd (B.p ∉ [B.pb]) := Hd.mk (by simpa using H4.out.w.d1.2.1)
      have HEM : Hd (x ∉ [B.pb]) := Hd.mk (by have := HNE.out B.pb (by simp [ShB.all]); simp; omega)
      have HSL := Hd.mk (H4.out.w.sl.fr0 (Fr.drew (Fr.refl [] _)))
      go_wp2_with fail
      refine wp_region_gs { R := Fr [B.pb], R1 := Fr [], gs := [Is (.pointer (some ⟨B.p, 0, none⟩)), Is (.pointer (some ⟨B.p, 0, none⟩)), Is (.pointer (some ⟨B.p, 0, none⟩)), Is (.pointer (some ⟨B.ps, 0, none⟩)), Is (.agg #[.string e.q.name, .int .u16 e.q.ty, .int .u16 e.q.cl, .slice e.ra e.rn e.rc, .int .i64 e.rcode, .int .i64 e.rank, .int .u64 e.expire]), Is (.tuple #[.int .i64 k, .int .i64 0]), Is (.tuple #[.int .i64 k, .int .i64 0]), Is (.int .i64 k), Is (.int .i64 0), Is (.int .i64 k), Is (.int .i64 0)], ds := [some 57, some 58, some 59, some 60, some 61, some 62, some 56, some 63, some 64, some 13, some 14], fl := [false, false, false, false, false, true, false, false, false, false, false], hs := [fun _ w2 => SlotsAt w2 B.ps B.pb s1, fun _ w2 => SlotsAt w2 B.ps B.pb (s1.at k ⟨e, true, false⟩)], hd := [[], []] } [false, false, false, false, false, false, false, false, false, false, false, false, false, true, true, false, false, false, false, false, false, false, false, false, false, false, false, false, false, false, false, false, false, false, false, false, false, false, false, false, false, false, false, false, false, false, false, false, false, false, false, false, false, false, false, false, true, true, true, true, true, true, true, true, true, false, false, false, false, false] (by kernel_rfl) _ (by kernel_rfl) (by kernel_rfl) (by kernel_rfl) (by kernel_rfl) rfl [] (fun _ _ _ h1 h2 => h1.trans h2) (fun _ _ h => h.mono (by simp)) (staI (staI (staI (staI (staI (staI (staI (staI (staI (staI (staI sta0))))))))))) (sth (fun _ _ _ hf h => h.fr0 hf) (sth (fun _ _ _ hf h => h.fr0 hf) sth0)) (fun _ _ h => h.size) _ (Fr.refl _ _) HSL.out ?_ ?_
      · refine ⟨?_, ?_, ?_, ?_, ?_, ?_, ?_, ?_, ?_, ?_, ?_, trivial⟩
        · intro σ w' hR hd
          simp only [fill, Nat.reduceAdd, if_true, Bool.false_eq_true, if_false]
          clear hd
          go_wp2
          exact ⟨Fr.refl _ _, rfl⟩
        · intro σ w' hR hd
          simp only [fill, Nat.reduceAdd, if_true, Bool.false_eq_true, if_false]
          obtain h57 : σ 57 = _ := hd 0 (by decide)
          rw [h57]
          clear h57
          clear hd
          go_wp2
          exact ⟨Fr.refl _ _, rfl⟩
        · intro σ w' hR hd
          simp only [fill, Nat.reduceAdd, if_true, Bool.false_eq_true, if_false]
          obtain h58 : σ 58 = _ := hd 1 (by decide)
          rw [h58]
          clear h58
          clear hd
          go_wp2
          exact ⟨Fr.refl _ _, rfl⟩
        · intro σ w' hR hd
          simp only [fill, Nat.reduceAdd, if_true, Bool.false_eq_true, if_false]
          obtain h59 : σ 59 = _ := hd 2 (by decide)
          rw [h59]
          clear h59
          clear hd
          have hfr := (Fr.drew (Fr.refl [B.pb] _)).trans hR
          obtain ⟨k0, k1, k2, kf⟩ := (HB.out.fr hfr HPM.out).cells3
          go_wp2
          exact ⟨Fr.refl _ _, rfl⟩
        · intro σ w' hR hd
          simp only [fill, Nat.reduceAdd, if_true, Bool.false_eq_true, if_false]
          clear hd
          have hfr := (Fr.drew (Fr.refl [B.pb] _)).trans hR
          obtain ⟨r0, r1, r2, r3, r4, r5, r6, rf⟩ := (HE4.out.fr hfr HEM.out).cells7
          go_wp2
          exact ⟨Fr.refl _ _, rfl⟩
        · intro σ w' hR hd hH
          simp only [fill, Nat.reduceAdd, if_true, Bool.false_eq_true, if_false]
          obtain h60 : σ 60 = _ := hd 3 (by decide)
          obtain h61 : σ 61 = _ := hd 4 (by decide)
          rw [h60, h61]
          clear h60 h61
          clear hd
          have hs : SlotsAt w' B.ps B.pb s1 := hH
          have HSS := Hd.mk hs
          clear hs hH
          go_wp2_with fail
          refine (put_yes HSS.out e k a1 HK1.out HU1.out HMIN.out).mono ?_
          rintro r w5 ⟨rfl, hs2, hf2⟩
          have HS2 := Hd.mk hs2
          have HF2 := Hd.mk hf2
          clear hs2 hf2
          go_wp2
          exact ⟨HF2.out, rfl, HS2.out⟩
        · intro σ w' hR hd
          simp only [fill, Nat.reduceAdd, if_true, Bool.false_eq_true, if_false]
          obtain h62 : σ 62 = _ := hd 5 (by decide)
          rw [h62]
          clear h62
          clear hd
          go_wp2
          exact ⟨Fr.refl _ _, rfl⟩
        · intro σ w' hR hd
          simp only [fill, Nat.reduceAdd, if_true, Bool.false_eq_true, if_false]
          obtain h56 : σ 56 = _ := hd 6 (by decide)
          rw [h56]
          clear h56
          clear hd
          go_wp2
          exact ⟨Fr.refl _ _, rfl⟩
        · intro σ w' hR hd
          simp only [fill, Nat.reduceAdd, if_true, Bool.false_eq_true, if_false]
          obtain h56 : σ 56 = _ := hd 6 (by decide)
          rw [h56]
          clear h56
          clear hd
          go_wp2
          exact ⟨Fr.refl _ _, rfl⟩
        · intro σ w' hR hd
          simp only [fill, Nat.reduceAdd, if_true, Bool.false_eq_true, if_false]
          obtain h63 : σ 63 = _ := hd 7 (by decide)
          rw [h63]
          clear h63
          clear hd
          go_wp2
          exact ⟨Fr.refl _ _, rfl⟩
        · intro σ w' hR hd
          simp only [fill, Nat.reduceAdd, if_true, Bool.false_eq_true, if_false]
          obtain h64 : σ 64 = _ := hd 8 (by decide)
          rw [h64]
          clear h64
          clear hd
          go_wp2
          exact ⟨Fr.refl _ _, rfl⟩
      · intro σ w3 hR hG hH
        obtain h13 : σ 13 = _ := hG 9 (by decide)
        obtain h14 : σ 14 = _ := hG 10 (by decide)
        simp only [fill, Nat.reduceAdd, if_true, Bool.false_eq_true, if_false, h13, h14]
        clear h13 h14
        clear hG
        have hfr := (Fr.drew (Fr.refl [B.pb] _)).trans hR
        have hs6 : SlotsAt w3 B.ps B.pb (s1.at k ⟨e, true, false⟩) := hH
        have H6 := Hd.mk (H4.out.w.slots hs6 (hfr.mono (by simp)))
        have HE6 := Hd.mk (HE4.out.fr hfr HEM.out)
        have HF6 := Hd.mk (HF4.out.trans (hfr.mono (T := B.wr) (by simp [ShB.wr])))
        have HQ6 := Hd.mk (own_fr HQ4.out hfr (fun j hj hx => by have := (HQ4.out.lt j hj).1; have := HLT.out B.pb (by simp [ShB.all]); simp at hx; omega))
        clear hfr hs6 hR hH HB
        obtain ⟨r0, r1, r2, r3, r4, r5, r6, rf⟩ := HE6.out.cells7
        go_wp2_with fail
        clear r0 r1 r2 r3 r4 r5 r6 rf
        refine (shset_calls H6.out (by rw [at_len]; exact HKL.out) e HEX.out HXL.out HML.out).mono ?_
        rintro r w7 ⟨rfl, h7, hf7⟩
        have H7 := Hd.mk (ShX.set H4.out.uq HKL.out (fun j b hj hv hb => by obtain ⟨b', h1, h2, h3⟩ := HSUB.out j b hj hv; exact absurd (by rw [h3]; exact hb) (HFN.out j b' h1 h2)) (fun b hb hv => by rw [HK1.out] at hb; cases hb; rw [HU1.out] at hv; cases hv) h7)
        have HF7 := Hd.mk (HF6.out.trans hf7)
        have HQ7 := Hd.mk (own_fr HQ6.out hf7 (fun j hj hx => by have := (HQ6.out.lt j hj).1; have := HLT.out j (B.wr_all j hx); omega))
        clear h7 hf7
        go_wp2
        go_ret2
        exact ⟨_, by rw [HI.out]; exact rfl, by rw [HI.out]; exact HQ7.out, by rw [HI.out]; exact HN4.out, by rw [HI.out]; exact ⟨tu4, H7.out⟩, HF7.out⟩
end
end Go.Proofs.Ytogjfcmclfehkaa
