import Derived.Test.YtogjfcmclfehkaaSA
namespace Go.Proofs.Ytogjfcmclfehkaa
open Go Go.RowKit Go.Proofs.MapL

section
variable {w w' : World} {B : ShB} {tu : Int} {s : SS} {X Y : List It}
theorem shlen_calls (h : ShX w B tu s X) : Calls Try.prog 25 #[.pointer (some ⟨B.p, 0, none⟩)] w fun r w' => r = .returned (.int .i64 s.all.length) ∧ Fr [] w w' := by
  obtain ⟨h1, h2, h3, -⟩ := h.w.blk.cells3
  have H := Hd.mk h
  clear h
  go_enter Try.func25, Try.ntmps25
  go_wp2_with fail
  refine (slen_any H.out.w.sl).mono ?_
  rintro r w1 ⟨rfl, hf⟩
  have HF := Hd.mk hf
  clear hf
  go_wp2
  go_ret
  exact ⟨rfl, HF.out⟩
theorem shroom_calls (h : ShX w B tu s X) : Calls Try.prog 60 #[.pointer (some ⟨B.p, 0, none⟩)] w fun r w' => r = .returned (.int .i64 s.l.length) ∧ w' = w := by
  obtain ⟨h1, h2, h3, -⟩ := h.w.blk.cells3
  have H := Hd.mk h
  clear h
  go_enter Try.func60, Try.ntmps60
  go_wp2_with fail
  refine (cap_any H.out.w.sl).mono ?_
  rintro r w1 ⟨rfl, rfl⟩
  go_wp2
  go_ret
  exact ⟨rfl, rfl⟩
theorem ShX.drops (h : ShX w B tu s X) {k : Nat} {a : Sl} (hk : s.l[k]? = some a) (hu : a.used = true) {Y : List It} {tu' : Int} (hW : ShW w' B tu' (s.at k Sl.none) Y (delL (whereOf s) a.x.q)) : ShX w' B tu' (s.at k Sl.none) Y :=
  ⟨hW.perm (List.Perm.refl _) (wher_del h.uq hk hu), h.uq.at_none k⟩
set_option maxRecDepth 100000 in
set_option maxHeartbeats 4000000 in
theorem drop_calls (h : ShX w B tu s X) {k : Nat} {a : Sl} (hk : s.l[k]? = some a) (hu : a.used = true) :
    Calls Try.prog 55 #[.pointer (some ⟨B.p, 0, none⟩), .int .i64 k] w fun r w' => r = .returned a.x.q.v ∧ ShX w' B tu (s.at k Sl.none) (delI X k) ∧ Fr B.wr w w' := by
  obtain ⟨h1, h2, h3, hf0⟩ := h.w.blk.cells3
  have HK := Hd.mk hk
  have HU := Hd.mk hu
  have H := Hd.mk h
  have hid : IdOk (k : Int) := by
    have := (List.getElem?_eq_some_iff.1 hk).1
    have := h.w.sl.len
    unfold IdOk Lit.wf
    simp only [IntKind.min, IntKind.max, IntKind.signed, IntKind.bits]
    simp
    omega
  have HID := Hd.mk hid
  have HLT := Hd.mk h.w.lt
  clear hk hu h hid
  go_enter Try.func55, Try.ntmps55
  clear h1 h2 h3 hf0
  go_upto_region 1 with (fail)
  refine wp_name ?_; intro w0 hw0
  have hF0 : Fr [] w w0 := by rw [hw0]; exact (Fr.refl [] w).alloc _
  have hres0 : Blk w0 w.heap.size 33 [.string ⟨#[]⟩, .int .u16 0, .int .u16 0] := by rw [hw0]; exact Blk.new _ _ _
  clear hw0
  obtain ⟨h1, h2, h3, hf0⟩ := (H.out.fr0 hF0).w.blk.cells3
  go_wp2_with fail
  refine (get_yes (H.out.w.sl.fr0 hF0) k a HK.out HU.out).mono ?_
  rintro r w1 ⟨rfl, hf1⟩
  have hF1 : Fr [] w w1 := hF0.trans hf1
  have hres : Blk w1 w.heap.size 33 [.string ⟨#[]⟩, .int .u16 0, .int .u16 0] := hres0.fr hf1 (by simp)
  have HS1 := Hd.mk (H.out.fr0 hF1)
  obtain ⟨e, he⟩ : ∃ e, w1.heap.size = e := ⟨_, rfl⟩
  have hz1 := hF1.size
  have hzr := hres.lt
  have HF1 := Hd.mk hF1
  have HRES := Hd.mk hres
  clear hf1 h1 h2 h3 hf0 hF1 hres hF0 hres0
  unfold En.v
  go_upto_region 2 with (fail)
  refine wp_name ?_; intro w2 hw2
  have hf2 := alloc_of hw2
  have hbe2 : Blk w2 e 37 [.string a.x.q.name, .int .u16 a.x.q.ty, .int .u16 a.x.q.cl, .slice a.x.ra a.x.rn a.x.rc, .int .i64 a.x.rcode, .int .i64 a.x.rank, .int .u64 a.x.expire] := by rw [← he]; exact blk_of (c := [.string a.x.q.name, .int .u16 a.x.q.ty, .int .u16 a.x.q.cl, .slice a.x.ra a.x.rn a.x.rc, .int .i64 a.x.rcode, .int .i64 a.x.rank, .int .u64 a.x.expire]) hw2
  clear hw2
  have HS2 := Hd.mk (HS1.out.fr0 hf2)
  have HF2 := Hd.mk (HF1.out.trans hf2)
  have HRES2 := Hd.mk (HRES.out.fr hf2 (by simp))
  have HE2 := Hd.mk hbe2
  have HNE : Hd (∀ x ∈ B.all, x ≠ e ∧ x ≠ w.heap.size) := Hd.mk fun x hx => by have := HLT.out x hx; omega
  have HEN : Hd (e ≠ w.heap.size) := Hd.mk (by omega)
  clear hf2 hbe2 HS1 HF1 HRES he hz1 hzr
  obtain ⟨h1, h2, h3, hf0⟩ := HS2.out.w.blk.cells3
  go_wp2_with fail
  refine (free_yes HS2.out.w.sl k a HK.out HU.out).mono ?_
  rintro r w3 ⟨rfl, hsl3, hf3⟩
  have hf3' : Fr [B.ps, B.pb] w2 w3 := hf3.mono (by simp)
  have HW3 := Hd.mk (HS2.out.w.slots hsl3 hf3')
  have HE3 := Hd.mk (HE2.out.fr hf3 (by have := HNE.out B.pb (by simp [ShB.all]); simp; omega))
  have HRES3 := Hd.mk (HRES2.out.fr hf3 (by have := HNE.out B.pb (by simp [ShB.all]); simp; omega))
  have HF3 := Hd.mk ((HF2.out.mono (T := B.wr) (by simp)).trans (hf3.mono (T := B.wr) (by simp [ShB.wr])))
  clear hsl3 hf3 hf3' h1 h2 h3 hf0
  obtain ⟨h1, h2, h3, hf0⟩ := HW3.out.blk.cells3
  go_wp2_with fail
  refine (del_calls HW3.out.wh HID.out).mono ?_
  rintro r w4 ⟨rfl, hw4, hf4⟩
  have HW4 := Hd.mk (HW3.out.wheel hw4 hf4 (ww_sub B))
  have hne4 : ∀ y : Nat, (∀ x ∈ B.all, x ≠ y) → y ∉ B.b :: B.bs := fun y hy hx => hy y (by unfold ShB.all; simp [ww_sub B y hx]) rfl
  have HE4 := Hd.mk (HE3.out.fr hf4 (hne4 e fun x hx => (HNE.out x hx).1))
  have HRES4 := Hd.mk (HRES3.out.fr hf4 (hne4 _ fun x hx => (HNE.out x hx).2))
  have HF4 := Hd.mk (HF3.out.trans (hf4.mono (T := B.wr) (fun x hx => by simp only [ShB.wr, List.mem_cons] at hx ⊢; rcases hx with h | h <;> simp [h])))
  clear hw4 hf4 h1 h2 h3 hf0 hne4
  have HB := Hd.mk HW4.out.blk
  have HE := HE4
  have HPM : Hd (B.p ∉ [B.bm]) := Hd.mk (by simpa using HW4.out.d1.2.2.1)
  have HEM : Hd (e ∉ [B.bm]) := Hd.mk (by have := (HNE.out B.bm (by simp [ShB.all])).1; simp; omega)
  have HRM : Hd (w.heap.size ∉ [B.bm]) := Hd.mk (by have := (HNE.out B.bm (by simp [ShB.all])).2; simp; omega)
  have HMP := Hd.mk (map_fr HW4.out.mp (Fr.drew (Fr.refl [] _)) (by simp))
  go_wp2_with fail
  refine wp_region_gs { R := Fr [B.bm], R1 := Fr [], gs := [Is (.pointer (some ⟨B.p, 0, none⟩)), Is (.pointer (some ⟨B.p, 0, none⟩)), Is (.pointer (some ⟨B.p, 2, none⟩)), Is (.map (some B.bm)), Is (.pointer (some ⟨e, 0, none⟩)), Is (.agg #[.string a.x.q.name, .int .u16 a.x.q.ty, .int .u16 a.x.q.cl]), No], ds := [some 28, some 29, some 30, some 31, some 32, some 33, none], fl := [false, false, false, false, false, false, true], hs := [fun _ w2 => mapIs Qn.lit vI Try.prog 33 w2 B.bm (whereOf s), fun _ w2 => mapIs Qn.lit vI Try.prog 33 w2 B.bm (delL (whereOf s) a.x.q)], hd := [[], []] } [false, false, false, false, false, false, false, false, false, false, false, false, false, false, false, false, false, false, false, false, false, false, false, false, false, false, false, false, true, true, true, true, true, true, false, false] (by kernel_rfl) _ (by kernel_rfl) (by kernel_rfl) (by kernel_rfl) (by kernel_rfl) rfl [] (fun _ _ _ h1 h2 => h1.trans h2) (fun _ _ h => h.mono (by simp)) (staI (staI (staI (staI (staI (staI (staN sta0))))))) (sth (fun _ _ _ hf h => map_fr h hf (by simp)) (sth (fun _ _ _ hf h => map_fr h hf (by simp)) sth0)) (fun _ _ h => h.size) _ (Fr.refl _ _) HMP.out ?_ ?_
  · refine ⟨?_, ?_, ?_, ?_, ?_, ?_, ?_, trivial⟩
    · intro σ w' hR hd
      simp only [fill, Nat.reduceAdd, if_true, Bool.false_eq_true, if_false]
      clear hd
      go_wp2
      exact ⟨Fr.refl _ _, rfl⟩
    · intro σ w' hR hd
      simp only [fill, Nat.reduceAdd, if_true, Bool.false_eq_true, if_false]
      obtain h28 : σ 28 = _ := hd 0 (by decide)
      rw [h28]
      clear h28
      clear hd
      go_wp2
      exact ⟨Fr.refl _ _, rfl⟩
    · intro σ w' hR hd
      simp only [fill, Nat.reduceAdd, if_true, Bool.false_eq_true, if_false]
      obtain h29 : σ 29 = _ := hd 1 (by decide)
      rw [h29]
      clear h29
      clear hd
      go_wp2
      exact ⟨Fr.refl _ _, rfl⟩
    · intro σ w' hR hd
      simp only [fill, Nat.reduceAdd, if_true, Bool.false_eq_true, if_false]
      obtain h30 : σ 30 = _ := hd 2 (by decide)
      rw [h30]
      clear h30
      clear hd
      have hfr := (Fr.drew (Fr.refl [B.bm] _)).trans hR
      obtain ⟨k0, k1, k2, kf⟩ := (HB.out.fr hfr HPM.out).cells3
      go_wp2
      exact ⟨Fr.refl _ _, rfl⟩
    · intro σ w' hR hd
      simp only [fill, Nat.reduceAdd, if_true, Bool.false_eq_true, if_false]
      clear hd
      go_wp2
      exact ⟨Fr.refl _ _, rfl⟩
    · intro σ w' hR hd
      simp only [fill, Nat.reduceAdd, if_true, Bool.false_eq_true, if_false]
      obtain h32 : σ 32 = _ := hd 4 (by decide)
      rw [h32]
      clear h32
      clear hd
      have hfr := (Fr.drew (Fr.refl [B.bm] _)).trans hR
      obtain ⟨r0, r1, r2, r3, r4, r5, r6, rf⟩ := (HE.out.fr hfr HEM.out).cells7
      go_wp2
      exact ⟨Fr.refl _ _, rfl⟩
    · intro σ w' hR hd hH
      simp only [fill, Nat.reduceAdd, if_true, Bool.false_eq_true, if_false]
      obtain h31 : σ 31 = _ := hd 3 (by decide)
      obtain h33 : σ 33 = _ := hd 5 (by decide)
      rw [h31, h33]
      clear h31 h33
      clear hd
      have hm5 : mapIs Qn.lit vI Try.prog 33 w' B.bm (whereOf s) := hH
      obtain ⟨w5, hrun, hm6, htn⟩ := hm5.drop lit_inj kq Try.underlying79 (key_q a.x.q) 0
      clear hm5
      unfold Qn.v at hrun
      go_wp2
      exact ⟨Fr.turned htn, trivial, hm6⟩
  · intro σ w3 hR hG hH
    simp only [fill, Nat.reduceAdd, if_true, Bool.false_eq_true, if_false]
    clear hG
    have hfr := (Fr.drew (Fr.refl [B.bm] _)).trans hR
    have hm6 : mapIs Qn.lit vI Try.prog 33 w3 B.bm (delL (whereOf s) a.x.q) := hH
    have HW5 := Hd.mk (HW4.out.map hm6 hfr)
    have HE5 := Hd.mk (HE4.out.fr hfr HEM.out)
    have HRES5 := Hd.mk (HRES4.out.fr hfr HRM.out)
    have HF5 := Hd.mk (HF4.out.trans (hfr.mono (T := B.wr) (by simp [ShB.wr])))
    clear hfr hm6 hR hH HW4 HE4 HRES4 HF4
    obtain ⟨r0, r1, r2, r3, r4, r5, r6, rf⟩ := HE5.out.cells7
    obtain ⟨q0, q1, q2, qf⟩ := HRES5.out.cells3
    go_wp2
    refine ret_name ?_; intro w6 hw6
    obtain ⟨h6, f6⟩ := Blk.three HRES5.out hw6
    clear r0 r1 r2 r3 r4 r5 r6 rf q0 q1 q2 qf hw6
    obtain ⟨q0, q1, q2, -⟩ := h6.cells3
    have hfin : ShX w6 B tu (s.at k Sl.none) (delI X k) := H.out.drops HK.out HU.out (HW5.out.fr f6 (fun x hx => by have := (HNE.out x hx).2; simp; omega))
    refine bodyPost_ret (v := a.x.q.v) (by simp [results, Try.results55, go_sem, q0, q1, q2, Qn.v]) rfl ⟨rfl, hfin, HF5.out.weak f6 (by simp)⟩
end
end Go.Proofs.Ytogjfcmclfehkaa
namespace Go.Proofs.Ytogjfcmclfehkaa
open Go Go.RowKit Go.Proofs.MapL

theorem dueP_mem {X : List It} {now : Int} {q : Int × Int} (h : q ∈ dueP X now) : ∃ x ∈ X, x.i = q.1 ∧ x.t = q.2 ∧ x.t ≤ now := by
  unfold dueP at h
  rw [List.mem_mergeSort] at h
  obtain ⟨x, hx, rfl⟩ := List.mem_map.1 h
  obtain ⟨h1, h2⟩ := List.mem_filter.1 hx
  exact ⟨x, h1, rfl, rfl, by simpa using h2⟩
theorem dueP_ids {X : List It} (hI : Ids X) (now : Int) : (dueP X now).Pairwise fun a b => a.1 ≠ b.1 := by
  have h3 : ((X.filter fun x => decide (x.t ≤ now)).map pairI).Pairwise fun a b => a.1 ≠ b.1 := by
    rw [List.pairwise_map]; exact hI.filter _
  exact ((List.mergeSort_perm _ _).pairwise_iff (fun {x y} hxy => Ne.symm hxy)).2 h3
theorem left_at {X : List It} (hI : Ids X) {now : Int} {q : Int × Int} (h : q ∈ dueP X now) : atI (leftI X now) q.1 = none := by
  obtain ⟨x, hx, h1, h2, h3⟩ := dueP_mem h
  refine List.find?_eq_none.2 fun y hy => ?_
  obtain ⟨h4, h5⟩ := List.mem_filter.1 hy
  intro h6
  have h7 := ids_one hI hx h4 (h1.trans (by simpa using h6 : y.i = q.1).symm)
  subst h7
  simp_all

/-- The slots that are due, in turn. -/
def dueK (s : SS) (now : Int) : List Nat := (dueP (itemsOf s) now).map fun q => q.1.toNat
def qAt (s : SS) (k : Nat) : Qn := ((s.l[k]?).map (·.x.q)).getD zeroEn.q
def clr (s : SS) (l : List Nat) : SS := l.foldl (fun s k => s.at k Sl.none) s
def dueQ (s : SS) (now : Int) : List Qn := (dueK s now).map (qAt s)
def dueS (s : SS) (now : Int) : SS := clr s (dueK s now)
theorem clr_hand (l : List Nat) : ∀ s : SS, (clr s l).hand = s.hand := by
  induction l with
  | nil => intro s; rfl
  | cons k l ih => intro s; show (clr (s.at k Sl.none) l).hand = _; rw [ih]; rfl
theorem clr_get (l : List Nat) : ∀ (s : SS) (j : Nat), (clr s l).l[j]? = if j ∈ l then (s.l[j]?).map (fun _ => Sl.none) else s.l[j]? := by
  induction l with
  | nil => intro s j; simp [clr]
  | cons k l ih =>
    intro s j
    show (clr (s.at k Sl.none) l).l[j]? = _
    rw [ih, at_get]
    by_cases hjk : j = k
    · subst hjk
      rw [if_pos rfl]
      by_cases hlt : j < s.l.length
      · rw [if_pos hlt, List.getElem?_eq_getElem hlt]; simp
      · rw [if_neg hlt, List.getElem?_eq_none (by omega)]; simp
    · rw [if_neg hjk]
      by_cases hjl : j ∈ l
      · simp [hjl]
      · simp [hjl, hjk]
theorem clr_take (l : List Nat) (s : SS) {j : Nat} (hj : j < l.length) : clr s (l.take (j + 1)) = (clr s (l.take j)).at l[j] Sl.none := by
  unfold clr
  rw [List.take_succ_eq_append_getElem hj, List.foldl_append]
  rfl
theorem mem_dueP {s : SS} {now : Int} {q : Int × Int} : q ∈ dueP (itemsOf s) now ↔ ∃ (k : Nat) (a : Sl), s.l[k]? = some a ∧ a.used = true ∧ q = ((k : Int), a.x.expire) ∧ a.x.expire ≤ now := by
  constructor
  · intro h
    obtain ⟨x, hx, h1, h2, h3⟩ := dueP_mem h
    obtain ⟨k, a, hk, hu, rfl⟩ := mem_items.1 hx
    exact ⟨k, a, hk, hu, Prod.ext h1.symm h2.symm, h3⟩
  · rintro ⟨k, a, hk, hu, rfl, h3⟩
    unfold dueP
    rw [List.mem_mergeSort]
    exact List.mem_map.2 ⟨⟨k, a.x.expire⟩, List.mem_filter.2 ⟨mem_items.2 ⟨k, a, hk, hu, rfl⟩, by simpa using h3⟩, rfl⟩
theorem mem_dueK {s : SS} {now : Int} {k : Nat} : k ∈ dueK s now ↔ ∃ (a : Sl), s.l[k]? = some a ∧ a.used = true ∧ a.x.expire ≤ now := by
  unfold dueK
  rw [List.mem_map]
  constructor
  · rintro ⟨q, hq, rfl⟩
    obtain ⟨k, a, hk, hu, rfl, h3⟩ := mem_dueP.1 hq
    exact ⟨a, by simpa using hk, hu, h3⟩
  · rintro ⟨a, hk, hu, h3⟩
    exact ⟨_, mem_dueP.2 ⟨k, a, hk, hu, rfl, h3⟩, by simp⟩
theorem dueK_nodup (s : SS) (now : Int) : (dueK s now).Nodup := by
  unfold dueK
  rw [List.Nodup, List.pairwise_map]
  refine List.Pairwise.imp_of_mem (fun {a b} ha hb hab => ?_) (dueP_ids (items_ids s) now)
  obtain ⟨k, x, -, -, rfl, -⟩ := mem_dueP.1 ha
  obtain ⟨j, y, -, -, rfl, -⟩ := mem_dueP.1 hb
  intro e
  apply hab
  have e : ((k : Int).toNat) = ((j : Int).toNat) := e
  show (k : Int) = (j : Int)
  omega
theorem left_items (s : SS) (now : Int) : (leftI (itemsOf s) now).Perm (itemsOf (dueS s now)) := by
  refine perm_items ((items_ids s).filter _) fun x => ?_
  unfold leftI
  rw [List.mem_filter, mem_items, mem_items]
  constructor
  · rintro ⟨⟨k, a, hk, hu, rfl⟩, h2⟩
    refine ⟨k, a, ?_, hu, rfl⟩
    unfold dueS
    rw [clr_get, if_neg, hk]
    intro hm
    obtain ⟨b, hb, -, h3⟩ := mem_dueK.1 hm
    rw [hk] at hb
    cases hb
    simp at h2
    omega
  · rintro ⟨k, a, hk, hu, rfl⟩
    unfold dueS at hk
    rw [clr_get] at hk
    split at hk
    · cases h : s.l[k]? with
      | none => simp [h] at hk
      | some b => simp [h] at hk; subst hk; cases hu
    · rename_i hm
      refine ⟨⟨k, a, hk, hu, rfl⟩, ?_⟩
      have h3 : ¬ a.x.expire ≤ now := fun h => hm (mem_dueK.2 ⟨a, hk, hu, h⟩)
      simpa using h3
theorem elQ : Elem Try.prog 45 33 (.agg #[.string ⟨#[]⟩, .int .u16 0, .int .u16 0]) 3 24 := ⟨by kernel_rfl, by kernel_rfl, rfl, by omega⟩
def QRow (w : World) (base : Nat) (v : Value) (ks : List Qn) : Prop := w.ownsRow base 33 3 v ks.length (ks.flatMap Qn.c)
def DueX (w : World) (B : ShB) (tu : Int) (s : SS) (now : Int) (r : Ending) (w' : World) : Prop :=
  ∃ v, r = .returned v ∧ QRow w' w.heap.size v (dueQ s now) ∧ (dueQ s now = [] → v = .slice none 0 0) ∧ ShAt w' B (max tu now) (dueS s now) ∧ Fr B.wr w w'
theorem dueK_len (s : SS) (now : Int) : (dueK s now).length ≤ s.l.length := by
  have h2 := List.Nodup.length_le_of_subset (l₂ := List.range s.l.length) (dueK_nodup s now) (fun k hk => by
    obtain ⟨a, hk, -, -⟩ := mem_dueK.1 hk
    exact List.mem_range.2 (List.getElem?_eq_some_iff.1 hk).1)
  simpa using h2
section
variable {w w' : World} {B : ShB} {tu : Int} {s : SS} {X Y : List It}
set_option maxRecDepth 100000 in
set_option maxHeartbeats 4000000 in
theorem shdue_calls (h : ShAt w B tu s) {now : Int} (hnow : TOk now) : Calls Try.prog 56 #[.pointer (some ⟨B.p, 0, none⟩), .int .u64 now] w (DueX w B tu s now) := by
  obtain ⟨h1, h2, h3, hf0⟩ := h.w.blk.cells3
  have hlen := h.w.sl.len
  have hil : (itemsOf s).length < 100000 := by
    have := List.length_filterMap_le (fun i => (s.l[i]?).bind fun a => if a.used then some (⟨i, a.x.expire⟩ : It) else none) (List.range s.l.length)
    unfold itemsOf
    simp only [List.length_range] at this
    omega
  have HIL := Hd.mk hil
  have H := Hd.mk h
  have HLT := Hd.mk h.w.lt
  clear h hil
  go_enter Try.func56, Try.ntmps56
  go_wp2_with fail
  refine (due_calls H.out.w.wh HIL.out hnow).mono ?_
  rintro r w1 ⟨v1, rfl, ho1, hv1, hw1, hf1⟩
  have HW1 := Hd.mk (H.out.w.wheel hw1 hf1 (ww_sub2 B))
  have HF1 := Hd.mk (hf1.mono (T := B.wr) (fun x hx => by simp only [ShB.wr, List.mem_cons] at hx ⊢; rcases hx with h | h | h <;> simp [h]))
  have hkl : (dueK s now).length = (dueP (itemsOf s) now).length := by unfold dueK; rw [List.length_map]
  have hkr : (dueP (itemsOf s) now).map iv = (dueK s now).map fun k : Nat => (.int .i64 k : Value) := by
    unfold dueK
    rw [List.map_map]
    apply List.map_congr_left
    intro q hq
    obtain ⟨k, a, -, -, rfl, -⟩ := mem_dueP.1 hq
    show Value.int .i64 (k : Int) = .int .i64 (((k : Int).toNat : Nat) : Int)
    simp
  rw [hkr, ← hkl] at ho1
  have hkle := dueK_len s now
  have HV1 : Hd (dueK s now = [] → v1 = .slice none 0 0) := Hd.mk fun h => hv1 (List.eq_nil_of_length_eq_zero (by rw [← hkl, h]; rfl))
  have HND := Hd.mk (dueK_nodup s now)
  have HMK : Hd (∀ k ∈ dueK s now, ∃ (a : Sl), s.l[k]? = some a ∧ a.used = true ∧ qAt s k = a.x.q ∧ atI (leftI (itemsOf s) now) k = none) := Hd.mk fun k hk => by
    obtain ⟨a, hka, hu, hx⟩ := mem_dueK.1 hk
    exact ⟨a, hka, hu, by unfold qAt; rw [hka]; rfl, left_at (items_ids s) (q := ((k : Int), a.x.expire)) (mem_dueP.2 ⟨k, a, hka, hu, rfl, hx⟩)⟩
  have HO1 := Hd.mk ho1
  have HFIN : Hd (dueQ s now = (dueK s now).map (qAt s) ∧ dueS s now = clr s (dueK s now) ∧ (leftI (itemsOf s) now).Perm (itemsOf (dueS s now))) := Hd.mk ⟨rfl, rfl, left_items s now⟩
  obtain ⟨K, hK⟩ : ∃ K, dueK s now = K := ⟨_, rfl⟩
  obtain ⟨L, hL⟩ : ∃ L, leftI (itemsOf s) now = L := ⟨_, rfl⟩
  rw [hK] at ho1 HV1 HND HMK HO1 hkle HFIN
  rw [hL] at HMK HW1 HFIN
  have HB1 : Hd (∀ k, v1.ownBlock = some k → k ∉ B.wr) := Hd.mk fun k hk hx => by
    have := (HO1.out.lt k hk).1
    have := HLT.out k (B.wr_all k hx)
    omega
  have hform : (K.length = 0 ∧ v1 = .slice none 0 0) ∨ (0 < K.length ∧ ∃ g c, v1 = .slice (some ⟨g, 0, none⟩) K.length c) := by
    rcases Nat.eq_zero_or_pos K.length with h0 | h0
    · exact .inl ⟨h0, HV1.out (List.eq_nil_of_length_eq_zero h0)⟩
    · obtain ⟨g, c, e, -, -⟩ := own_form ho1 h0
      exact .inr ⟨h0, g, c, e⟩
  clear hK hL hkl hkr hv1 hw1 hf1 h1 h2 h3 hf0 ho1
  have HINV : Hd (ShX w1 B (max tu now) s L) := Hd.mk ⟨HW1.out, H.out.uq⟩
  clear HW1
  rcases hform with ⟨h0, rfl⟩ | ⟨h0, g, c, rfl⟩
  · obtain rfl : K = [] := List.eq_nil_of_length_eq_zero h0
    clear h0
    go_wp2_with fail
    go_loopw [5, 15] (fun l i wr => l = .slice none 0 0 ∧ i = .int .i64 0 ∧ Fr [] w1 wr) (fun _ _ _ => 0)
    case atStart => exact ⟨rfl, rfl, Fr.refl _ _⟩
    case round =>
      obtain ⟨rfl, rfl, hfr⟩ := hrel
      have HFR := Hd.mk hfr
      clear hfr
      go_wp2
      go_ret
      obtain ⟨f1, f2, f3⟩ := HFIN.out
      refine ⟨_, rfl, ?_, fun _ => rfl, ?_, HF1.out.trans (HFR.out.mono (by simp))⟩
      · rw [f1]; exact World.ownsRow_nil _ _ _ _
      · have h9 := (HINV.out.fr0 HFR.out)
        rw [f2] at f3 ⊢
        exact h9.perm f3
  · have HK0 := Hd.mk h0
    clear h0
    go_wp2_with fail
    go_loopw [5, 15] (fun l i wr => ∃ j : Nat, j ≤ K.length ∧ i = .int .i64 j ∧ QRow wr w1.heap.size l ((K.take j).map (qAt s)) ∧ (j = 0 → l = .slice none 0 0) ∧ ShX wr B (max tu now) (clr s (K.take j)) L ∧ Fr B.wr w1 wr) (fun _ i _ => K.length - (intOf i).toNat)
    case atStart => exact ⟨0, Nat.zero_le _, rfl, World.ownsRow_nil _ _ _ _, fun _ => rfl, HINV.out, Fr.refl _ _⟩
    case round =>
      obtain ⟨j, hj, rfl, hq, hqn, hx, hfr⟩ := hrel
      have HX := Hd.mk hx
      have HFR := Hd.mk hfr
      have HQN := Hd.mk hqn
      clear hx hfr hqn
      by_cases hjl : j < K.length
      · have hc := (own_fr HO1.out HFR.out HB1.out)
        have c0 := own_cell hc (j := j) (v := .int .i64 (K[j] : Nat)) (by rw [List.getElem?_map, List.getElem?_eq_getElem hjl]; rfl)
        obtain ⟨a, ha, hu, hqa, hat⟩ := HMK.out K[j] (List.getElem_mem hjl)
        have hnt : K[j] ∉ K.take j := by
          intro hm
          obtain ⟨i, hi, e⟩ := List.getElem_of_mem hm
          rw [List.getElem_take] at e
          have hij : i < j := by rw [List.length_take] at hi; omega
          have := List.pairwise_iff_getElem.1 HND.out i j (by omega) hjl hij
          exact this e
        have hca : (clr s (K.take j)).l[K[j]]? = some a := by rw [clr_get, if_neg hnt, ha]
        have hdr := drop_calls HX.out hca hu
        rw [delI_none hat, ← clr_take K s hjl] at hdr
        have htk : (K.take (j + 1)).map (qAt s) = (K.take j).map (qAt s) ++ [a.x.q] := by rw [List.take_succ_eq_append_getElem hjl, List.map_append, ← hqa]; rfl
        have HTK := Hd.mk htk
        have hql : ((K.take j).map (qAt s)).length = j := by rw [List.length_map, List.length_take]; omega
        have HQL := Hd.mk hql
        have HDR := Hd.mk hdr
        have HQ := Hd.mk hq
        have HKL := Hd.mk hkle
        obtain ⟨kj, hkj⟩ : ∃ kj, K[j] = kj := ⟨_, rfl⟩
        rw [hkj] at c0 HDR
        clear hc ha hu hqa hat hnt hca hdr htk hql hq hkle hkj
        go_wp2_with fail
        clear c0
        refine HDR.out.mono ?_
        rintro r w2 ⟨rfl, hx2, hf2⟩
        have hqn2 : ∀ k, u5.ownBlock = some k → k ∉ B.wr := fun k hk hx => by
          have := (HQ.out.lt k hk).1
          have := HLT.out k (B.wr_all k hx)
          have := HF1.out.size
          omega
        have hq2 := own_fr HQ.out hf2 hqn2
        have hbz : w1.heap.size ≤ w2.heap.size := by have := HFR.out.size; have := hf2.size; omega
        have hl64 := HKL.out
        have hqll := HQL.out
        have HX2 := Hd.mk hx2
        have HF2 := Hd.mk (HFR.out.trans hf2)
        have HLT2 := HLT
        unfold Qn.v
        clear hx2 hf2 hqn2
        go_wp2_with (at_builtin; refine wpList_app1s elQ rfl (.tmp 19) (.tmp 23) rfl hq2 rfl a.x.q.c rfl rfl (by simp [Qn.c, Value.oneCell']) (by omega) (by omega) hbz ?_; intro g9 c9 w9 ho9 hf9 hb9 hg9 hor9; have HO9 := Hd.mk ho9; have HF9 := Hd.mk hf9; have HOB := Hd.mk (fun (k : Nat) (hk : u5.ownBlock = some k) => (hq2.lt k hk).1); clear ho9 hf9 hb9 hg9 hor9 hq2)
        go_roundw
        case rel =>
          refine ⟨j + 1, by omega, by go_num, ?_, fun h => by omega, HX2.out.fr HF9.out (fun k hk hx => ?_), HF2.out.weak HF9.out (fun x hx => .inr (HOB.out x (by simpa using hx)))⟩
          · unfold QRow
            have h9 := HO9.out
            rw [HTK.out, List.length_append, List.flatMap_append, hqll]
            rw [hqll] at h9
            exact h9
          · have := HOB.out k (by simpa using hx)
            have := HLT2.out k hk
            have := HF1.out.size
            omega
        case measure => simp [intOf]; omega
      · have hje : j = K.length := by omega
        subst hje
        rw [List.take_length] at hq HX
        have HQ := Hd.mk hq
        have HQ0 := HQN
        clear hq
        go_wp2
        go_ret
        obtain ⟨f1, f2, f3⟩ := HFIN.out
        refine ⟨_, rfl, ?_, fun h => ?_, ?_, HF1.out.trans HFR.out⟩
        · rw [f1]; exact own_base HQ.out HF1.out.size
        · rw [f1] at h
          have h2 := congrArg List.length h
          rw [List.length_map, List.length_nil] at h2
          have := HK0.out
          omega
        · have h9 := HX.out
          rw [f2] at f3 ⊢
          exact h9.perm f3
end
end Go.Proofs.Ytogjfcmclfehkaa
namespace Go.Proofs.Ytogjfcmclfehkaa
open Go Go.RowKit Go.Proofs.MapL

def SS.victim (s : SS) : SS × Nat × Bool := s.vic (2 * s.l.length)
theorem SS.vic_succ {t : SS} (hh : t.hand < t.l.length) (k : Nat) : SS.vic (k + 1) t = if t.l[t.hand].used then
        if t.l[t.hand].touched then SS.vic k { l := t.l.set t.hand { t.l[t.hand] with touched := false }, hand := (t.hand + 1) % t.l.length }
        else ({ t with hand := (t.hand + 1) % t.l.length }, t.hand, true)
      else SS.vic k { t with hand := (t.hand + 1) % t.l.length } := by
  have hg : t.l[t.hand]? = some t.l[t.hand] := List.getElem?_eq_getElem hh
  rw [SS.vic]; simp only [hg]

theorem SS.vic_hand : ∀ (k : Nat) (s : SS), s.hand < s.l.length → (s.vic k).1.hand < s.l.length := by
  intro k
  induction k with
  | zero => intro s h; exact h
  | succ k ih =>
    intro s h
    have hm : (s.hand + 1) % s.l.length < s.l.length := Nat.mod_lt _ (by omega)
    rw [SS.vic_succ h]
    split
    · split
      · have := ih { l := s.l.set s.hand { s.l[s.hand] with touched := false }, hand := (s.hand + 1) % s.l.length } (by simpa using hm)
        simpa using this
      · exact hm
    · exact ih { s with hand := (s.hand + 1) % s.l.length } hm

theorem SS.all_pos {s : SS} (h : 0 < s.all.length) : ∃ i, ∃ hi : i < s.l.length, s.l[i].used = true := by
  obtain ⟨x, hx⟩ := List.exists_mem_of_length_pos h
  unfold SS.all SS.allTo at hx
  rw [List.mem_filter, List.mem_range] at hx
  exact ⟨x, hx.1, by simpa [hx.1] using hx.2⟩

/-- Somebody who isn't touched lies d places ahead of the hand: told within d + 1 places. -/
theorem SS.vic_finds : ∀ (d k : Nat) (s : SS), s.hand < s.l.length → d < s.l.length → d < k → (∀ i (h : i < s.l.length), i = (s.hand + d) % s.l.length → s.l[i].used = true ∧ s.l[i].touched = false) → (s.vic k).2.2 = true := by
  intro d
  induction d with
  | zero =>
    intro k s h hd hk hi
    obtain ⟨k, rfl⟩ : ∃ m, k = m + 1 := ⟨k - 1, by omega⟩
    obtain ⟨h1, h2⟩ := hi s.hand h (by rw [Nat.add_zero, Nat.mod_eq_of_lt h])
    rw [SS.vic_succ h, if_pos h1, if_neg (by rw [h2]; simp)]
  | succ d ih =>
    intro k s h hd hk hi
    obtain ⟨k, rfl⟩ : ∃ m, k = m + 1 := ⟨k - 1, by omega⟩
    have hm : (s.hand + 1) % s.l.length < s.l.length := Nat.mod_lt _ (by omega)
    have he : ((s.hand + 1) % s.l.length + d) % s.l.length = (s.hand + (d + 1)) % s.l.length := by
      rw [Nat.mod_add_mod]; congr 1; omega
    have hne : (s.hand + (d + 1)) % s.l.length ≠ s.hand := by
      intro h'
      have h2 : (s.hand + (d + 1)) < s.l.length + s.l.length := by omega
      rcases Nat.lt_or_ge (s.hand + (d + 1)) s.l.length with h3 | h3
      · rw [Nat.mod_eq_of_lt h3] at h'; omega
      · rw [Nat.mod_eq_sub_mod h3, Nat.mod_eq_of_lt (by omega)] at h'; omega
    rw [SS.vic_succ h]
    split
    · split
      · refine ih k { l := s.l.set s.hand { s.l[s.hand] with touched := false }, hand := (s.hand + 1) % s.l.length } (by simpa using hm) (by simp; omega) (by omega) ?_
        intro i hil hie
        simp only [List.length_set] at hil hie
        have hin : i ≠ s.hand := by rw [hie, he]; exact hne
        simp only [List.getElem_set, if_neg (Ne.symm hin)]
        exact hi i hil (by rw [hie, he])
      · rfl
    · refine ih k { s with hand := (s.hand + 1) % s.l.length } hm (by simp; omega) (by omega) ?_
      intro i hil hie
      exact hi i hil (by rw [hie]; exact he)

/-- Somebody lies d places ahead of the hand: somebody is told within a round more. -/
theorem SS.vic_finds2 : ∀ (d k : Nat) (s : SS), s.hand < s.l.length → d < s.l.length → d + s.l.length < k → (∀ i (h : i < s.l.length), i = (s.hand + d) % s.l.length → s.l[i].used = true) → (s.vic k).2.2 = true := by
  intro d
  induction d with
  | zero =>
    intro k s h hd hk hi
    obtain ⟨k, rfl⟩ : ∃ m, k = m + 1 := ⟨k - 1, by omega⟩
    have h1 := hi s.hand h (by rw [Nat.add_zero, Nat.mod_eq_of_lt h])
    have hm : (s.hand + 1) % s.l.length < s.l.length := Nat.mod_lt _ (by omega)
    rw [SS.vic_succ h, if_pos h1]
    split
    · refine SS.vic_finds (s.l.length - 1) k { l := s.l.set s.hand { s.l[s.hand] with touched := false }, hand := (s.hand + 1) % s.l.length } (by simpa using hm) (by simp; omega) (by omega) ?_
      intro i hil hie
      simp only [List.length_set] at hil hie
      have : i = s.hand := by
        rw [hie, Nat.mod_add_mod, show s.hand + 1 + (s.l.length - 1) = s.hand + s.l.length by omega, Nat.add_mod_right, Nat.mod_eq_of_lt h]
      subst this
      simp [h1]
    · rfl
  | succ d ih =>
    intro k s h hd hk hi
    obtain ⟨k, rfl⟩ : ∃ m, k = m + 1 := ⟨k - 1, by omega⟩
    have hm : (s.hand + 1) % s.l.length < s.l.length := Nat.mod_lt _ (by omega)
    have he : ((s.hand + 1) % s.l.length + d) % s.l.length = (s.hand + (d + 1)) % s.l.length := by
      rw [Nat.mod_add_mod]; congr 1; omega
    rw [SS.vic_succ h]
    split
    · split
      · refine ih k { l := s.l.set s.hand { s.l[s.hand] with touched := false }, hand := (s.hand + 1) % s.l.length } (by simpa using hm) (by simp; omega) (by simp; omega) ?_
        intro i hil hie
        simp only [List.length_set] at hil hie
        simp only [List.getElem_set]
        have := hi i hil (by rw [hie, he])
        split
        · rename_i h'; subst h'; exact this
        · exact this
      · rfl
    · refine ih k { s with hand := (s.hand + 1) % s.l.length } hm (by simp; omega) (by simp; omega) ?_
      intro i hil hie
      exact hi i hil (by rw [hie]; exact he)

theorem SS.victim_pos {s : SS} (hh : s.hand < s.l.length) (h : 0 < s.all.length) : s.victim.2.2 = true := by
  obtain ⟨i, hi, hu⟩ := SS.all_pos h
  unfold SS.victim
  by_cases hle : s.hand ≤ i
  · refine SS.vic_finds2 (i - s.hand) _ s hh (by omega) (by omega) ?_
    intro j hj he
    have : j = i := by rw [he, show s.hand + (i - s.hand) = i by omega, Nat.mod_eq_of_lt hi]
    subst this; exact hu
  · refine SS.vic_finds2 (i + s.l.length - s.hand) _ s hh (by omega) (by omega) ?_
    intro j hj he
    have : j = i := by rw [he, show s.hand + (i + s.l.length - s.hand) = i + s.l.length by omega, Nat.add_mod_right, Nat.mod_eq_of_lt hi]
    subst this; exact hu


section
variable {w w' : World} {B : ShB} {tu : Int} {s : SS} {X Y : List It} {M : List (Qn × Int)}
set_option maxRecDepth 100000 in
set_option maxHeartbeats 4000000 in
theorem shset_calls (h : ShW w B tu s X M) {k : Nat} (hk : k < s.l.length) (e : En) (he : TOk e.expire) (hX : X.length < 1000000) (hM : M.length < 1000000) :
    Calls Try.prog 53 #[.pointer (some ⟨B.p, 0, none⟩), .int .i64 k, e.v] w fun r w' => r = .returned (.tuple #[]) ∧ ShW w' B tu s (setX X k e.expire) (putL M e.q (k : Int)) ∧ Fr B.wr w w' := by
  have hid : IdOk (k : Int) := by
    have := h.sl.len
    unfold IdOk Lit.wf
    simp only [IntKind.min, IntKind.max, IntKind.signed, IntKind.bits]
    simp
    omega
  have HID := Hd.mk hid
  have HEX := Hd.mk he
  have HXL := Hd.mk hX
  have HML : Hd (M.length < maxLen) := Hd.mk (by unfold maxLen; omega)
  have HLT := Hd.mk h.lt
  have H := Hd.mk h
  clear hid he hX hM h
  unfold En.v
  go_enter Try.func53, Try.ntmps53
  go_upto_region 1 with (fail)
  refine wp_name ?_; intro w0 hw0
  have hF0 : Fr [] w w0 := alloc_of hw0
  have hbx : Blk w0 w.heap.size 37 [.string e.q.name, .int .u16 e.q.ty, .int .u16 e.q.cl, .slice e.ra e.rn e.rc, .int .i64 e.rcode, .int .i64 e.rank, .int .u64 e.expire] := blk_of (c := [.string e.q.name, .int .u16 e.q.ty, .int .u16 e.q.cl, .slice e.ra e.rn e.rc, .int .i64 e.rcode, .int .i64 e.rank, .int .u64 e.expire]) hw0
  clear hw0
  obtain ⟨x, hx⟩ : ∃ x, w.heap.size = x := ⟨_, rfl⟩
  rw [hx] at hbx ⊢
  have HNE : Hd (∀ y ∈ B.all, y ≠ x) := Hd.mk fun y hy => by have := HLT.out y hy; omega
  have H0 := Hd.mk (H.out.fr0 hF0)
  have HF0 := Hd.mk hF0
  have HB := Hd.mk H0.out.blk
  have HE := Hd.mk hbx
  have HPM : Hd (B.p ∉ [B.bm]) := Hd.mk (by simpa using H0.out.d1.2.2.1)
  have HEM : Hd (x ∉ [B.bm]) := Hd.mk (by have := HNE.out B.bm (by simp [ShB.all]); simp; omega)
  have HMP := Hd.mk (map_fr H0.out.mp (Fr.drew (Fr.refl [] _)) (by simp))
  clear hF0 hbx hx
  refine wp_region_gs { R := Fr [B.bm], R1 := Fr [], gs := [Is (.pointer (some ⟨B.p, 0, none⟩)), Is (.pointer (some ⟨B.p, 0, none⟩)), Is (.pointer (some ⟨B.p, 2, none⟩)), Is (.map (some B.bm)), Is (.pointer (some ⟨x, 0, none⟩)), Is (.agg #[.string e.q.name, .int .u16 e.q.ty, .int .u16 e.q.cl]), Is (.int .i64 k), No], ds := [some 6, some 7, some 8, some 9, some 10, some 11, some 12, none], fl := [false, false, false, false, false, false, false, true], hs := [fun _ w2 => mapIs Qn.lit vI Try.prog 33 w2 B.bm M, fun _ w2 => mapIs Qn.lit vI Try.prog 33 w2 B.bm (putL M e.q (k : Int))], hd := [[], []] } [false, false, false, false, false, false, true, true, true, true, true, true, true, false, false, false, false, false, false, false, false] (by kernel_rfl) _ (by kernel_rfl) (by kernel_rfl) (by kernel_rfl) (by kernel_rfl) rfl [] (fun _ _ _ h1 h2 => h1.trans h2) (fun _ _ h => h.mono (by simp)) (staI (staI (staI (staI (staI (staI (staI (staN sta0)))))))) (sth (fun _ _ _ hf h => map_fr h hf (by simp)) (sth (fun _ _ _ hf h => map_fr h hf (by simp)) sth0)) (fun _ _ h => h.size) _ (Fr.refl _ _) HMP.out ?_ ?_
  · refine ⟨?_, ?_, ?_, ?_, ?_, ?_, ?_, ?_, trivial⟩
    · intro σ w' hR hd
      simp only [fill, Nat.reduceAdd, if_true, Bool.false_eq_true, if_false]
      clear hd
      go_wp2
      exact ⟨Fr.refl _ _, rfl⟩
    · intro σ w' hR hd
      simp only [fill, Nat.reduceAdd, if_true, Bool.false_eq_true, if_false]
      obtain h6 : σ 6 = _ := hd 0 (by decide)
      rw [h6]
      clear h6
      clear hd
      go_wp2
      exact ⟨Fr.refl _ _, rfl⟩
    · intro σ w' hR hd
      simp only [fill, Nat.reduceAdd, if_true, Bool.false_eq_true, if_false]
      obtain h7 : σ 7 = _ := hd 1 (by decide)
      rw [h7]
      clear h7
      clear hd
      go_wp2
      exact ⟨Fr.refl _ _, rfl⟩
    · intro σ w' hR hd
      simp only [fill, Nat.reduceAdd, if_true, Bool.false_eq_true, if_false]
      obtain h8 : σ 8 = _ := hd 2 (by decide)
      rw [h8]
      clear h8
      clear hd
      have hfr := (Fr.drew (Fr.refl [B.bm] _)).trans hR
      obtain ⟨k0, k1, k2, kf⟩ := (HB.out.fr hfr HPM.out).cells3
      go_wp2
      exact ⟨Fr.refl _ _, rfl⟩
    · intro σ w' hR hd
      simp only [fill, Nat.reduceAdd, if_true, Bool.false_eq_true, if_false]
      clear hd
      go_wp2
      exact ⟨Fr.refl _ _, rfl⟩
    · intro σ w' hR hd
      simp only [fill, Nat.reduceAdd, if_true, Bool.false_eq_true, if_false]
      obtain h10 : σ 10 = _ := hd 4 (by decide)
      rw [h10]
      clear h10
      clear hd
      have hfr := (Fr.drew (Fr.refl [B.bm] _)).trans hR
      obtain ⟨r0, r1, r2, r3, r4, r5, r6, rf⟩ := (HE.out.fr hfr HEM.out).cells7
      go_wp2
      exact ⟨Fr.refl _ _, rfl⟩
    · intro σ w' hR hd
      simp only [fill, Nat.reduceAdd, if_true, Bool.false_eq_true, if_false]
      clear hd
      go_wp2
      exact ⟨Fr.refl _ _, rfl⟩
    · intro σ w' hR hd hH
      simp only [fill, Nat.reduceAdd, if_true, Bool.false_eq_true, if_false]
      obtain h9 : σ 9 = _ := hd 3 (by decide)
      obtain h11 : σ 11 = _ := hd 5 (by decide)
      obtain h12 : σ 12 = _ := hd 6 (by decide)
      rw [h9, h11, h12]
      clear h9 h11 h12
      clear hd
      have hm5 : mapIs Qn.lit vI Try.prog 33 w' B.bm M := hH
      obtain ⟨w5, hrun, hm6, htn⟩ := hm5.update lit_inj kq Try.underlying79 HML.out (key_q e.q) (lit_key e.q) (k : Int)
      clear hm5
      unfold Qn.v vI at hrun
      go_wp2
      exact ⟨Fr.turned htn, trivial, hm6⟩
  · intro σ w3 hR hG hH
    simp only [fill, Nat.reduceAdd, if_true, Bool.false_eq_true, if_false]
    clear hG
    have hfr := (Fr.drew (Fr.refl [B.bm] _)).trans hR
    have hm6 : mapIs Qn.lit vI Try.prog 33 w3 B.bm (putL M e.q (k : Int)) := hH
    have H3 := Hd.mk (H0.out.map hm6 hfr)
    have HE := Hd.mk (HE.out.fr hfr HEM.out)
    have HF3 := Hd.mk ((HF0.out.mono (T := B.wr) (by simp)).trans (hfr.mono (T := B.wr) (by simp [ShB.wr])))
    clear hfr hm6 hR hH HB HMP
    have HB := Hd.mk H3.out.blk
    have HPW : Hd (B.p ∉ B.b :: B.bs) := Hd.mk fun hx => (H3.out.sep _ (ww_sub B _ hx)).1 rfl
    have HEW : Hd (x ∉ B.b :: B.bs) := Hd.mk fun hx => HNE.out x (by unfold ShB.all; simp [ww_sub B x hx]) rfl
    have HWH := Hd.mk (H3.out.wh.fr0 (Fr.drew (Fr.refl [] _)))
    go_wp2_with fail
    refine wp_region_gs { R := Fr (B.b :: B.bs), R1 := Fr [], gs := [Is (.pointer (some ⟨B.p, 0, none⟩)), Is (.pointer (some ⟨B.p, 0, none⟩)), Is (.pointer (some ⟨B.p, 1, none⟩)), Is (.pointer (some ⟨B.pw, 0, none⟩)), Is (.int .i64 k), Is (.pointer (some ⟨x, 6, none⟩)), Is (.int .u64 e.expire), Is (.int .i64 0)], ds := [some 13, some 14, some 15, some 16, some 17, some 18, some 19, some 20], fl := [false, false, false, false, false, false, false, true], hs := [fun _ w2 => WhAt w2 B.pw B.g B.b B.c B.bs tu X, fun _ w2 => WhAt w2 B.pw B.g B.b B.c B.bs tu (setX X k e.expire)], hd := [[], []] } [false, false, false, false, false, false, false, false, false, false, false, false, false, true, true, true, true, true, true, true, true] (by kernel_rfl) _ (by kernel_rfl) (by kernel_rfl) (by kernel_rfl) (by kernel_rfl) rfl [] (fun _ _ _ h1 h2 => h1.trans h2) (fun _ _ h => h.mono (by simp)) (staI (staI (staI (staI (staI (staI (staI (staI sta0)))))))) (sth (fun _ _ _ hf h => h.fr0 hf) (sth (fun _ _ _ hf h => h.fr0 hf) sth0)) (fun _ _ h => h.size) _ (Fr.refl _ _) HWH.out ?_ ?_
    · refine ⟨?_, ?_, ?_, ?_, ?_, ?_, ?_, ?_, trivial⟩
      · intro σ w' hR hd
        simp only [fill, Nat.reduceAdd, if_true, Bool.false_eq_true, if_false]
        clear hd
        go_wp2
        exact ⟨Fr.refl _ _, rfl⟩
      · intro σ w' hR hd
        simp only [fill, Nat.reduceAdd, if_true, Bool.false_eq_true, if_false]
        obtain h13 : σ 13 = _ := hd 0 (by decide)
        rw [h13]
        clear h13
        clear hd
        go_wp2
        exact ⟨Fr.refl _ _, rfl⟩
      · intro σ w' hR hd
        simp only [fill, Nat.reduceAdd, if_true, Bool.false_eq_true, if_false]
        obtain h14 : σ 14 = _ := hd 1 (by decide)
        rw [h14]
        clear h14
        clear hd
        go_wp2
        exact ⟨Fr.refl _ _, rfl⟩
      · intro σ w' hR hd
        simp only [fill, Nat.reduceAdd, if_true, Bool.false_eq_true, if_false]
        obtain h15 : σ 15 = _ := hd 2 (by decide)
        rw [h15]
        clear h15
        clear hd
        have hfr := (Fr.drew (Fr.refl (B.b :: B.bs) _)).trans hR
        obtain ⟨k0, k1, k2, kf⟩ := (HB.out.fr hfr HPW.out).cells3
        go_wp2
        exact ⟨Fr.refl _ _, rfl⟩
      · intro σ w' hR hd
        simp only [fill, Nat.reduceAdd, if_true, Bool.false_eq_true, if_false]
        clear hd
        go_wp2
        exact ⟨Fr.refl _ _, rfl⟩
      · intro σ w' hR hd
        simp only [fill, Nat.reduceAdd, if_true, Bool.false_eq_true, if_false]
        clear hd
        go_wp2
        exact ⟨Fr.refl _ _, rfl⟩
      · intro σ w' hR hd
        simp only [fill, Nat.reduceAdd, if_true, Bool.false_eq_true, if_false]
        obtain h18 : σ 18 = _ := hd 5 (by decide)
        rw [h18]
        clear h18
        clear hd
        have hfr := (Fr.drew (Fr.refl (B.b :: B.bs) _)).trans hR
        obtain ⟨r0, r1, r2, r3, r4, r5, r6, rf⟩ := (HE.out.fr hfr HEW.out).cells7
        go_wp2
        exact ⟨Fr.refl _ _, rfl⟩
      · intro σ w' hR hd hH
        simp only [fill, Nat.reduceAdd, if_true, Bool.false_eq_true, if_false]
        obtain h16 : σ 16 = _ := hd 3 (by decide)
        obtain h17 : σ 17 = _ := hd 4 (by decide)
        obtain h19 : σ 19 = _ := hd 6 (by decide)
        rw [h16, h17, h19]
        clear h16 h17 h19
        clear hd
        have hw : WhAt w' B.pw B.g B.b B.c B.bs tu X := hH
        have HWW := Hd.mk hw
        clear hw hH
        go_wp2_with fail
        refine (set_calls HWW.out HID.out HEX.out HXL.out).mono ?_
        rintro r w4 ⟨rfl, hW2, hf2⟩
        have HX2 := Hd.mk hW2
        have HF2 := Hd.mk hf2
        clear hW2 hf2
        go_wp2
        exact ⟨HF2.out, rfl, HX2.out⟩
    · intro σ w3 hR hG hH
      simp only [fill, Nat.reduceAdd, if_true, Bool.false_eq_true, if_false]
      clear hG
      have hfr := (Fr.drew (Fr.refl (B.b :: B.bs) _)).trans hR
      have hw6 : WhAt w3 B.pw B.g B.b B.c B.bs tu (setX X k e.expire) := hH
      have H4 := Hd.mk (H3.out.wheel hw6 hfr (ww_sub B))
      have HF4 := Hd.mk (HF3.out.trans (hfr.mono (T := B.wr) (fun x hx => by simp only [ShB.wr, List.mem_cons] at hx ⊢; rcases hx with h | h <;> simp [h])))
      clear hfr hw6 hR hH
      go_wp2
      refine bodyPost_end (v := .tuple #[]) (by simp [results, Try.results53, go_sem]) rfl ⟨rfl, H4.out, HF4.out⟩
end
end Go.Proofs.Ytogjfcmclfehkaa
namespace Go.Proofs.Ytogjfcmclfehkaa
open Go Go.RowKit Go.Proofs.MapL

theorem own_of_blk {w : World} {base g T n : Nat} {cs : List Value} (h : Blk w g T cs) (hb : base ≤ g) {size : Nat} (hn : cs.length = n * size) (hm : n ≤ maxLen) : w.ownsRow base T size (.slice (some ⟨g, 0, none⟩) n n) n cs := by
  refine ⟨hn, .inr ⟨g, n, cs.toArray, rfl, hb, h, Nat.le_refl _, hm, by simpa using hn, ?_⟩⟩
  rw [List.take_of_length_le (by simp [hn])]
/-- A shard, its wheel turned up to some time. -/
def ShE (w : World) (B : ShB) (s : SS) : Prop := ∃ tu, ShAt w B tu s
section
variable {w w' : World} {B : ShB} {tu : Int} {s s' : SS} {X Y : List It} {M : List (Qn × Int)} {S : List Nat}
theorem ShE.fr (h : ShE w B s) (hf : Fr S w w') (hS : ∀ k ∈ B.all, k ∉ S) : ShE w' B s := by
  obtain ⟨tu, h⟩ := h
  exact ⟨tu, h.fr hf hS⟩
theorem ShE.fr0 (h : ShE w B s) (hf : Fr [] w w') : ShE w' B s := h.fr hf (by simp)
theorem ShE.lt (h : ShE w B s) : ∀ k ∈ B.all, k < w.heap.size := by
  obtain ⟨tu, h⟩ := h
  exact h.w.lt
/-- The same things at the same places. -/
def Same2 (s s' : SS) : Prop := s'.l.length = s.l.length ∧ ∀ j : Nat, (s'.l[j]?).map (fun a => (a.x, a.used)) = (s.l[j]?).map fun a => (a.x, a.used)
theorem Same2.refl (s : SS) : Same2 s s := ⟨rfl, fun _ => rfl⟩
theorem Same2.trans {a b c : SS} (h : Same2 a b) (k : Same2 b c) : Same2 a c := ⟨k.1.trans h.1, fun j => (k.2 j).trans (h.2 j)⟩
theorem same_items (h : Same2 s s') : itemsOf s' = itemsOf s := by
  unfold itemsOf
  rw [h.1]
  congr 1
  funext i
  have := h.2 i
  cases h1 : s.l[i]? <;> cases h2 : s'.l[i]? <;> simp [h1, h2] at this ⊢
  rw [this.1, this.2]
theorem same_where (h : Same2 s s') : whereOf s' = whereOf s := by
  unfold whereOf
  rw [h.1]
  congr 1
  funext i
  have := h.2 i
  cases h1 : s.l[i]? <;> cases h2 : s'.l[i]? <;> simp [h1, h2] at this ⊢
  rw [this.1, this.2]
theorem same_get (h : Same2 s s') {j : Nat} {a : Sl} (ha : s'.l[j]? = some a) : ∃ b, s.l[j]? = some b ∧ b.x = a.x ∧ b.used = a.used := by
  have := h.2 j
  rw [ha] at this
  cases h1 : s.l[j]? with
  | none => simp [h1] at this
  | some b => simp [h1] at this; exact ⟨b, rfl, this.1.symm, this.2.symm⟩
theorem same_uq (h : Same2 s s') (hU : Uq s) : Uq s' := by
  intro i j a b hi hj hu hv e
  obtain ⟨a', hi', ex, eu⟩ := same_get h hi
  obtain ⟨b', hj', fx, fu⟩ := same_get h hj
  exact hU i j a' b' hi' hj' (eu.trans hu) (fu.trans hv) (by rw [ex, fx]; exact e)
theorem vic_same : ∀ (k : Nat) (s : SS), s.hand < s.l.length → Same2 s (s.vic k).1 := by
  intro k
  induction k with
  | zero => intro s _; exact Same2.refl s
  | succ k ih =>
    intro s hh
    have hm : (s.hand + 1) % s.l.length < s.l.length := Nat.mod_lt _ (by omega)
    have hg : s.l[s.hand]? = some s.l[s.hand] := List.getElem?_eq_getElem hh
    rw [SS.vic_succ hh]
    split
    · split
      · refine Same2.trans ?_ (ih _ (by simpa using hm))
        refine ⟨by simp, fun j => ?_⟩
        show ((s.l.set s.hand _)[j]?).map _ = _
        rw [List.getElem?_set]
        by_cases hj : s.hand = j
        · subst hj; simp [hh]
        · simp [hj]
      · exact ⟨rfl, fun _ => rfl⟩
    · exact Same2.trans (b := { s with hand := (s.hand + 1) % s.l.length }) ⟨rfl, fun _ => rfl⟩ (ih _ hm)
theorem vic_used : ∀ (k : Nat) (s s' : SS) (i : Nat), s.hand < s.l.length → s.vic k = (s', i, true) → ∃ a, s'.l[i]? = some a ∧ a.used = true := by
  intro k
  induction k with
  | zero => intro s s' i _ h; simp [SS.vic] at h
  | succ k ih =>
    intro s s' i hh h
    have hm : (s.hand + 1) % s.l.length < s.l.length := Nat.mod_lt _ (by omega)
    rw [SS.vic_succ hh] at h
    split at h
    · rename_i hu
      split at h
      · exact ih _ s' i (by simpa using hm) h
      · simp only [Prod.mk.injEq, and_true] at h
        obtain ⟨rfl, rfl⟩ := h
        exact ⟨_, List.getElem?_eq_getElem hh, hu⟩
    · exact ih _ s' i hm h
theorem items_len (s : SS) : (itemsOf s).length ≤ s.l.length := by
  have := List.length_filterMap_le (fun i => (s.l[i]?).bind fun a => if a.used then some (⟨i, a.x.expire⟩ : It) else none) (List.range s.l.length)
  unfold itemsOf
  simpa using this
theorem where_len2 (s : SS) : (whereOf s).length ≤ s.l.length := by
  have := List.length_filterMap_le (fun i => (s.l[i]?).bind fun a => if a.used then some (a.x.q, (i : Int)) else none) (List.range s.l.length)
  unfold whereOf
  simpa using this
theorem ShX.set (hU : Uq s) {k : Nat} (hk : k < s.l.length) {e : En} {t : Bool} (hq : ∀ (j : Nat) (b : Sl), s.l[j]? = some b → b.used = true → b.x.q = e.q → j = k) (hk2 : ∀ (b : Sl), s.l[k]? = some b → b.used = true → b.x.q = e.q)
    (hW : ShW w B tu (s.at k ⟨e, true, t⟩) (setX (itemsOf s) k e.expire) (putL (whereOf s) e.q (k : Int))) : ShAt w B tu (s.at k ⟨e, true, t⟩) :=
  ⟨hW.perm (items_set hk e t) (wher_put hU hk hq hk2), hU.at_new hq⟩
set_option maxRecDepth 100000 in
set_option maxHeartbeats 4000000 in
theorem replace_calls (h : ShE w B s) {k : Nat} {a : Sl} (hk : s.l[k]? = some a) (hu : a.used = true) (e : En) (hq : a.x.q = e.q) (he : TOk e.expire) :
    Calls Try.prog 50 #[.pointer (some ⟨B.p, 0, none⟩), .int .i64 k, e.v] w fun r w' => r = .returned (.tuple #[]) ∧ ShE w' B (s.at k ⟨e, true, true⟩) ∧ Fr B.wr w w' := by
  obtain ⟨tu, h⟩ := h
  have hlt := (List.getElem?_eq_some_iff.1 hk).1
  have HK := Hd.mk hk
  have HU := Hd.mk hu
  have HEX := Hd.mk he
  have HLT := Hd.mk h.w.lt
  have hl64 := h.w.sl.len
  have HXL : Hd ((itemsOf s).length < 1000000) := Hd.mk (by have := items_len s; omega)
  have HML : Hd ((whereOf s).length < 1000000) := Hd.mk (by have := where_len2 s; omega)
  have HKL := Hd.mk hlt
  have HQ1 : Hd (∀ (j : Nat) (b : Sl), s.l[j]? = some b → b.used = true → b.x.q = e.q → j = k) := Hd.mk fun j b hj hv hb => h.uq j k b a hj hk hv hu (hb.trans hq.symm)
  have HQ2 : Hd (∀ (b : Sl), s.l[k]? = some b → b.used = true → b.x.q = e.q) := Hd.mk fun b hb _ => by rw [hk] at hb; cases hb; exact hq
  have H := Hd.mk h
  clear hk hu he h hlt hl64 hq
  unfold En.v
  go_enter Try.func50, Try.ntmps50
  go_upto_region 1 with (fail)
  refine wp_name ?_; intro w0 hw0
  have hF0 : Fr [] w w0 := alloc_of hw0
  have hbx : Blk w0 w.heap.size 37 [.string e.q.name, .int .u16 e.q.ty, .int .u16 e.q.cl, .slice e.ra e.rn e.rc, .int .i64 e.rcode, .int .i64 e.rank, .int .u64 e.expire] := blk_of (c := [.string e.q.name, .int .u16 e.q.ty, .int .u16 e.q.cl, .slice e.ra e.rn e.rc, .int .i64 e.rcode, .int .i64 e.rank, .int .u64 e.expire]) hw0
  clear hw0
  obtain ⟨x, hx⟩ : ∃ x, w.heap.size = x := ⟨_, rfl⟩
  rw [hx] at hbx ⊢
  have HNE : Hd (∀ y ∈ B.all, y ≠ x) := Hd.mk fun y hy => by have := HLT.out y hy; omega
  have H0 := Hd.mk (H.out.fr0 hF0)
  have HF0 := Hd.mk hF0
  have HB := Hd.mk H0.out.w.blk
  have HE := Hd.mk hbx
  have HPM : Hd (B.p ∉ [B.pb]) := Hd.mk (by simpa using H0.out.w.d1.2.1)
  have HEM : Hd (x ∉ [B.pb]) := Hd.mk (by have := HNE.out B.pb (by simp [ShB.all]); simp; omega)
  have HSL := Hd.mk (H0.out.w.sl.fr0 (Fr.drew (Fr.refl [] _)))
  clear hF0 hbx hx
  refine wp_region_gs { R := Fr [B.pb], R1 := Fr [], gs := [Is (.pointer (some ⟨B.p, 0, none⟩)), Is (.pointer (some ⟨B.p, 0, none⟩)), Is (.pointer (some ⟨B.p, 0, none⟩)), Is (.pointer (some ⟨B.ps, 0, none⟩)), Is (.int .i64 k), Is (.agg #[.string e.q.name, .int .u16 e.q.ty, .int .u16 e.q.cl, .slice e.ra e.rn e.rc, .int .i64 e.rcode, .int .i64 e.rank, .int .u64 e.expire]), Is (.bool true)], ds := [some 6, some 7, some 8, some 9, some 10, some 11, some 12], fl := [false, false, false, false, false, false, true], hs := [fun _ w2 => SlotsAt w2 B.ps B.pb s, fun _ w2 => SlotsAt w2 B.ps B.pb (s.at k { a with x := e })], hd := [[], []] } [false, false, false, false, false, false, true, true, true, true, true, true, true, false, false, false, false, false, false, false, false, false, false] (by kernel_rfl) _ (by kernel_rfl) (by kernel_rfl) (by kernel_rfl) (by kernel_rfl) rfl [] (fun _ _ _ h1 h2 => h1.trans h2) (fun _ _ h => h.mono (by simp)) (staI (staI (staI (staI (staI (staI (staI sta0))))))) (sth (fun _ _ _ hf h => h.fr0 hf) (sth (fun _ _ _ hf h => h.fr0 hf) sth0)) (fun _ _ h => h.size) _ (Fr.refl _ _) HSL.out ?_ ?_
  · refine ⟨?_, ?_, ?_, ?_, ?_, ?_, ?_, trivial⟩
    · intro σ w' hR hd
      simp only [fill, Nat.reduceAdd, if_true, Bool.false_eq_true, if_false]
      clear hd
      go_wp2
      exact ⟨Fr.refl _ _, rfl⟩
    · intro σ w' hR hd
      simp only [fill, Nat.reduceAdd, if_true, Bool.false_eq_true, if_false]
      obtain h6 : σ 6 = _ := hd 0 (by decide)
      rw [h6]
      clear h6
      clear hd
      go_wp2
      exact ⟨Fr.refl _ _, rfl⟩
    · intro σ w' hR hd
      simp only [fill, Nat.reduceAdd, if_true, Bool.false_eq_true, if_false]
      obtain h7 : σ 7 = _ := hd 1 (by decide)
      rw [h7]
      clear h7
      clear hd
      go_wp2
      exact ⟨Fr.refl _ _, rfl⟩
    · intro σ w' hR hd
      simp only [fill, Nat.reduceAdd, if_true, Bool.false_eq_true, if_false]
      obtain h8 : σ 8 = _ := hd 2 (by decide)
      rw [h8]
      clear h8
      clear hd
      have hfr := (Fr.drew (Fr.refl [B.pb] _)).trans hR
      obtain ⟨k0, k1, k2, kf⟩ := (HB.out.fr hfr HPM.out).cells3
      go_wp2
      exact ⟨Fr.refl _ _, rfl⟩
    · intro σ w' hR hd
      simp only [fill, Nat.reduceAdd, if_true, Bool.false_eq_true, if_false]
      clear hd
      go_wp2
      exact ⟨Fr.refl _ _, rfl⟩
    · intro σ w' hR hd
      simp only [fill, Nat.reduceAdd, if_true, Bool.false_eq_true, if_false]
      clear hd
      have hfr := (Fr.drew (Fr.refl [B.pb] _)).trans hR
      obtain ⟨r0, r1, r2, r3, r4, r5, r6, rf⟩ := (HE.out.fr hfr HEM.out).cells7
      go_wp2
      exact ⟨Fr.refl _ _, rfl⟩
    · intro σ w' hR hd hH
      simp only [fill, Nat.reduceAdd, if_true, Bool.false_eq_true, if_false]
      obtain h9 : σ 9 = _ := hd 3 (by decide)
      obtain h10 : σ 10 = _ := hd 4 (by decide)
      obtain h11 : σ 11 = _ := hd 5 (by decide)
      rw [h9, h10, h11]
      clear h9 h10 h11
      clear hd
      have hs : SlotsAt w' B.ps B.pb s := hH
      have HSS := Hd.mk hs
      clear hs hH
      go_wp2_with fail
      refine (sset_yes HSS.out k a e HK.out HU.out).mono ?_
      rintro r w4 ⟨rfl, hs2, hf2⟩
      have HS2 := Hd.mk hs2
      have HF2 := Hd.mk hf2
      clear hs2 hf2
      go_wp2
      exact ⟨HF2.out, rfl, HS2.out⟩
  · intro σ w3 hR hG hH
    simp only [fill, Nat.reduceAdd, if_true, Bool.false_eq_true, if_false]
    clear hG
    have hfr := (Fr.drew (Fr.refl [B.pb] _)).trans hR
    have hs6 : SlotsAt w3 B.ps B.pb (s.at k { a with x := e }) := hH
    have H3 := Hd.mk (H0.out.w.slots hs6 (hfr.mono (by simp)))
    have HE := Hd.mk (HE.out.fr hfr HEM.out)
    have HF3 := Hd.mk ((HF0.out.mono (T := B.wr) (by simp)).trans (hfr.mono (T := B.wr) (by simp [ShB.wr])))
    clear hfr hs6 hR hH HB HSL
    obtain ⟨r0, r1, r2, r3, r4, r5, r6, rf⟩ := HE.out.cells7
    go_wp2_with fail
    clear r0 r1 r2 r3 r4 r5 r6 rf
    refine (shset_calls H3.out (by rw [at_len]; exact HKL.out) e HEX.out HXL.out HML.out).mono ?_
    rintro r w4 ⟨rfl, h4, hf4⟩
    have H4 := Hd.mk h4
    have HF4 := Hd.mk (HF3.out.trans hf4)
    clear h4 hf4
    obtain ⟨k0, k1, k2, kf⟩ := H4.out.blk.cells3
    go_wp2_with fail
    refine (touch_yes H4.out.sl k { a with x := e } (by rw [at_get, if_pos rfl, if_pos HKL.out]) HU.out).mono ?_
    rintro r w5 ⟨rfl, hs5, hf5⟩
    have e5 : (s.at k { a with x := e }).at k { a with x := e, touched := true } = s.at k ⟨e, true, true⟩ := by
      unfold SS.at
      simp only [List.set_set]
      rw [HU.out]
    rw [e5] at hs5
    have H5 := Hd.mk (ShX.set H.out.uq HKL.out HQ1.out HQ2.out (H4.out.slots hs5 (hf5.mono (by simp))))
    have HF5 := Hd.mk (HF4.out.trans (hf5.mono (T := B.wr) (by simp [ShB.wr])))
    clear hs5 hf5 k0 k1 k2 kf e5
    go_wp2
    refine bodyPost_end (v := .tuple #[]) (by simp [results, Try.results50, go_sem]) rfl ⟨rfl, ⟨_, H5.out⟩, HF5.out⟩
/-- What goes to make room. -/
def goneQ (s : SS) (now : Int) : List Qn := if s.all.length < s.l.length then [] else if 0 < (dueQ s now).length then dueQ s now else [qAt s.victim.1 s.victim.2.1]
def roomS (s : SS) (now : Int) : SS := if s.all.length < s.l.length then s else if 0 < (dueQ s now).length then dueS s now else s.victim.1.at s.victim.2.1 Sl.none
def RoomX (w : World) (B : ShB) (s : SS) (now : Int) (r : Ending) (w' : World) : Prop :=
  ∃ v, r = .returned v ∧ QRow w' w.heap.size v (goneQ s now) ∧ (goneQ s now = [] → v = .slice none 0 0) ∧ ShE w' B (roomS s now) ∧ Fr B.wr w w'
theorem dueS_nil {now : Int} (h : dueQ s now = []) : dueS s now = s := by
  have : dueK s now = [] := List.map_eq_nil_iff.1 h
  unfold dueS; rw [this]; rfl
set_option maxRecDepth 100000 in
set_option maxHeartbeats 4000000 in
theorem room_calls (h : ShE w B s) {now : Int} (hnow : TOk now) : Calls Try.prog 51 #[.pointer (some ⟨B.p, 0, none⟩), .int .u64 now] w (RoomX w B s now) := by
  obtain ⟨tu, h⟩ := h
  have H := Hd.mk h
  have hl64 := h.w.sl.len
  have hal : s.all.length ≤ s.l.length := s.allTo_le _
  clear h
  go_enter Try.func51, Try.ntmps51
  go_wp2_with fail
  refine (shlen_calls H.out).mono ?_
  rintro r w1 ⟨rfl, hf1⟩
  have HF1 := Hd.mk hf1
  clear hf1
  go_wp2_with fail
  refine (shroom_calls (H.out.fr0 HF1.out)).mono ?_
  rintro r w2 ⟨rfl, hw2⟩
  subst hw2
  by_cases hlt : s.all.length < s.l.length
  · have HG : Hd (goneQ s now = [] ∧ roomS s now = s) := Hd.mk ⟨by unfold goneQ; rw [if_pos hlt], by unfold roomS; rw [if_pos hlt]⟩
    go_wp2
    go_ret
    exact ⟨_, rfl, by rw [HG.out.1]; exact World.ownsRow_nil _ _ _ _, fun _ => rfl, by rw [HG.out.2]; exact ⟨tu, H.out.fr0 HF1.out⟩, HF1.out.mono (by simp)⟩
  · have hlt1 := Hd.mk hlt
    go_wp2_with fail
    refine (shdue_calls (H.out.fr0 HF1.out) hnow).mono ?_
    rintro r w3 ⟨v3, rfl, hq3, hn3, h3, hf3⟩
    have HF3 := Hd.mk ((HF1.out.mono (T := B.wr) (by simp)).trans hf3)
    by_cases hd : 0 < (dueQ s now).length
    · have HG : Hd (goneQ s now = dueQ s now ∧ roomS s now = dueS s now) := Hd.mk ⟨by unfold goneQ; rw [if_neg hlt, if_pos hd], by unfold roomS; rw [if_neg hlt, if_pos hd]⟩
      have hne : ¬ dueQ s now = [] := fun e => by rw [e] at hd; simp at hd
      obtain ⟨g, c, rfl, -, -⟩ := own_form hq3 hd
      have HQ3 := Hd.mk (own_base hq3 HF1.out.size)
      have H3 := Hd.mk h3
      clear hq3 hn3 h3 hf3
      go_wp2
      go_ret
      exact ⟨_, rfl, by rw [HG.out.1]; exact HQ3.out, fun e => absurd (HG.out.1.symm.trans e) hne, by rw [HG.out.2]; exact ⟨_, H3.out⟩, HF3.out⟩
    · have hg0 : goneQ s now = [qAt s.victim.1 s.victim.2.1] ∧ roomS s now = s.victim.1.at s.victim.2.1 Sl.none := ⟨by unfold goneQ; rw [if_neg hlt, if_neg hd], by unfold roomS; rw [if_neg hlt, if_neg hd]⟩
      have hnil : dueQ s now = [] := List.eq_nil_of_length_eq_zero (by omega)
      obtain rfl := hn3 hnil
      rw [dueS_nil hnil] at h3
      have H3 := Hd.mk h3
      have hhand := h3.w.sl.hand
      have hpos : 0 < s.all.length := by omega
      have hv2 := SS.victim_pos hhand hpos
      obtain ⟨s9, i9, b9, hv⟩ : ∃ s9 i9 b9, s.victim = (s9, i9, b9) := ⟨_, _, _, rfl⟩
      rw [hv] at hv2 hg0
      obtain rfl : b9 = true := hv2
      have hvic : s.vic (2 * s.l.length) = (s9, i9, true) := hv
      have hsame := vic_same (2 * s.l.length) s hhand
      rw [hvic] at hsame
      obtain ⟨a9, ha9, hu9⟩ := vic_used _ _ _ _ hhand hvic
      have HVIC := Hd.mk hvic
      have HSM := Hd.mk hsame
      have HA9 := Hd.mk ha9
      have HU9 := Hd.mk hu9
      have HPOS := Hd.mk hpos
      have hqa : qAt s9 i9 = a9.x.q := by unfold qAt; rw [ha9]; rfl
      have HG : Hd (goneQ s now = [a9.x.q] ∧ roomS s now = s9.at i9 Sl.none) := Hd.mk (by rw [← hqa]; exact hg0)
      obtain ⟨k0, k1, k2, kf⟩ := h3.w.blk.cells3
      clear hq3 hn3 h3 hf3 hv hvic hsame ha9 hu9 hhand hpos hqa hg0
      go_wp2_with fail
      clear k0 k1 k2 kf
      refine (victim_yes H3.out.w.sl HPOS.out _ _ HVIC.out).mono ?_
      rintro r w4 ⟨rfl, hs4, hf4⟩
      have hw4 := H3.out.w.slots hs4 hf4
      rw [← same_items HSM.out, ← same_where HSM.out] at hw4
      have H4 : Hd (ShAt w4 B (max tu now) s9) := Hd.mk ⟨hw4, same_uq HSM.out H.out.uq⟩
      have HF4 := Hd.mk (HF3.out.trans (hf4.mono (T := B.wr) (by simp [ShB.wr])))
      clear hs4 hf4 hw4
      go_wp2_with fail
      refine (drop_calls H4.out HA9.out HU9.out).mono ?_
      rintro r w5 ⟨rfl, h5, hf5⟩
      have H5 := Hd.mk (h5.perm (items_del (List.getElem?_eq_some_iff.1 HA9.out).1))
      have HF5 := Hd.mk (HF4.out.trans hf5)
      clear h5 hf5
      unfold Qn.v
      go_wp2
      refine ret_name ?_; intro w6 hw6
      have hb6 := blk_of (c := a9.x.q.c) hw6
      have hf6 := alloc_of hw6
      have hz := HF5.out.size
      clear hw6
      go_ret
      refine ⟨_, rfl, ?_, fun e => by rw [HG.out.1] at e; simp at e, by rw [HG.out.2]; exact ⟨_, H5.out.fr0 hf6⟩, HF5.out.trans (hf6.mono (by simp))⟩
      rw [HG.out.1]
      exact own_of_blk (n := 1) hb6 hz (by simp [Qn.c]) (by decide)
end
end Go.Proofs.Ytogjfcmclfehkaa
