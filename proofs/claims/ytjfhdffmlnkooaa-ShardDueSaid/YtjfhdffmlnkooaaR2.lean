import Derived.Test.YtjfhdffmlnkooaaR1
import Derived.Test.YtjfhdffmlnkooaaPPa
namespace Go.Proofs.Ytjfhdffmlnkooaa
open Go Go.RowKit Go.Proofs.MapL PPM Go.Proofs.YtjfhdffmlnkooaaW.PrintWords
attribute [local go_sem high] eqA25

theorem ba_ext {a b : ByteArray} (h : a.toList = b.toList) : a = b := by
  rw [ByteArray.toList_eq, ByteArray.toList_eq] at h
  exact ByteArray.ext (Array.toList_inj.1 h)
theorem qn_eqb (a b : Qn) : (a.name.toList == b.name.toList && (a.ty == b.ty && (a.cl == b.cl))) = decide (a = b) := by
  rw [Bool.eq_iff_iff]
  simp only [Bool.and_eq_true, beq_iff_eq, decide_eq_true_eq]
  constructor
  · rintro ⟨h1, h2, h3⟩
    obtain ⟨n, t, c, hn⟩ := a
    obtain ⟨n', t', c', hn'⟩ := b
    dsimp only at h1 h2 h3
    have h4 : n = n' := ba_ext h1
    subst h4 h2 h3
    rfl
  · rintro rfl; exact ⟨rfl, rfl, rfl⟩
theorem RefAt.fr {w w' : World} {gx cx gu cu gt ct : Nat} {s : SS} (h : RefAt w gx cx gu cu gt ct s) (hf : Fr [] w w') : RefAt w' gx cx gu cu gt ct s :=
  ⟨own_fr h.x hf (by simp), own_fr h.u hf (by simp), own_fr h.t hf (by simp), h.hand, h.len⟩
theorem RefAt.frs {w w' : World} {gx cx gu cu gt ct : Nat} {s : SS} {S : List Nat} (h : RefAt w gx cx gu cu gt ct s) (hf : Fr S w w') (h1 : gx ∉ S) (h2 : gu ∉ S) (h3 : gt ∉ S) : RefAt w' gx cx gu cu gt ct s :=
  ⟨own_fr h.x hf (by simpa [Value.ownBlock] using h1), own_fr h.u hf (by simpa [Value.ownBlock] using h2), own_fr h.t hf (by simpa [Value.ownBlock] using h3), h.hand, h.len⟩
theorem RefAt.lt {w : World} {gx cx gu cu gt ct : Nat} {s : SS} (h : RefAt w gx cx gu cu gt ct s) : gx < w.heap.size ∧ gu < w.heap.size ∧ gt < w.heap.size := ⟨(h.x.lt gx rfl).2, (h.u.lt gu rfl).2, (h.t.lt gt rfl).2⟩
theorem RefAt.ent {w : World} {gx cx gu cu gt ct : Nat} {s : SS} (h : RefAt w gx cx gu cu gt ct s) {k : Nat} {a : Sl} (hk : s.l[k]? = some a) : ∀ j u, j < 7 → (a.x.c)[j]? = some u → w.cell? ⟨gx, k * 7 + j, none⟩ = some u := fun j u hj hu => by
  have hlt := (List.getElem?_eq_some_iff.1 hk).1
  rw [h.x.cellAt _ (by omega)]
  unfold xsOf
  rw [flat_get (k := 7) (fun _ => rfl) _ _ _ hj, List.getElem?_map, hk]
  exact hu
theorem RefAt.use {w : World} {gx cx gu cu gt ct : Nat} {s : SS} (h : RefAt w gx cx gu cu gt ct s) {k : Nat} {a : Sl} (hk : s.l[k]? = some a) : w.cell? ⟨gu, k, none⟩ = some (.bool a.used) := own_cell h.u (by unfold usOf; rw [List.getElem?_map, hk]; rfl)
theorem RefAt.tou {w : World} {gx cx gu cu gt ct : Nat} {s : SS} (h : RefAt w gx cx gu cu gt ct s) {k : Nat} {a : Sl} (hk : s.l[k]? = some a) : w.cell? ⟨gt, k, none⟩ = some (.bool a.touched) := own_cell h.t (by unfold tsOf; rw [List.getElem?_map, hk]; rfl)
theorem RefAt.turned {w : World} {gx cx gu cu gt ct : Nat} {s : SS} (h : RefAt w gx cx gu cu gt ct s) {n : Nat} (hn : n < s.l.length) : RefAt w gx cx gu cu gt ct { s with hand := n } := ⟨h.x, h.u, h.t, hn, h.len⟩
def ratV (s : SS) (q : Qn) : Int := ((s.find q).map fun k : Nat => (k : Int)).getD (-1)
theorem findIdx_from {s : SS} {q : Qn} (p : Sl → Bool) (hp : p = fun a => a.used && decide (a.x.q = q)) {j : Nat} (hj : j ≤ s.l.length) (hb : ∀ i (h : i < s.l.length), i < j → p s.l[i] = false) :
    (∀ (h : j < s.l.length), p s.l[j] = true → s.find q = some j) ∧ (j = s.l.length → s.find q = none) := by
  subst hp
  constructor
  · intro h1 h2
    unfold SS.find
    exact List.findIdx?_eq_some_iff_getElem.2 ⟨h1, h2, fun i hi => by simpa using hb i (by omega) hi⟩
  · intro h1
    unfold SS.find
    rw [List.findIdx?_eq_none_iff]
    intro a ha
    obtain ⟨i, hi, rfl⟩ := List.getElem_of_mem ha
    exact hb i hi (by omega)
set_option maxRecDepth 100000 in
set_option maxHeartbeats 4000000 in
theorem rat_calls {w : World} {gx cx gu cu gt ct : Nat} {s : SS} (h : RefAt w gx cx gu cu gt ct s) (q : Qn) : Calls Try.prog 52 #[refV gx cx gu cu gt ct s.l.length s.hand, q.v] w fun r w' => r = .returned (.int .i64 (ratV s q)) ∧ Fr [] w w' := by
  have H := Hd.mk h
  clear h
  unfold refV Qn.v
  go_enter Try.func52, Try.ntmps52
  go_upto_region 1 with (fail)
  refine wp_name ?_; intro w0 hw0
  have hf0 : Fr [] w w0 := by rw [hw0]; exact ((Fr.refl [] w).alloc _).alloc _
  have hbs : Blk w0 w.heap.size 51 [.slice (some ⟨gx, 0, none⟩) s.l.length cx, .slice (some ⟨gu, 0, none⟩) s.l.length cu, .slice (some ⟨gt, 0, none⟩) s.l.length ct, .int .i64 s.hand] := by rw [hw0]; exact (Blk.new _ _ _).alloc _
  have hbq : Blk w0 (w.heap.size + 1) 25 [.string q.name, .int .u16 q.ty, .int .u16 q.cl] := by
    rw [hw0]
    have h0 := Blk.new (w.alloc (.cells #[.slice (some ⟨gx, 0, none⟩) s.l.length cx, .slice (some ⟨gu, 0, none⟩) s.l.length cu, .slice (some ⟨gt, 0, none⟩) s.l.length ct, .int .i64 s.hand] 51)) 25 [.string q.name, .int .u16 q.ty, .int .u16 q.cl]
    simp only [World.size_alloc] at h0
    exact h0
  clear hw0
  obtain ⟨sb, hsb⟩ : ∃ sb, w.heap.size = sb := ⟨_, rfl⟩
  obtain ⟨qb, hqb⟩ : ∃ qb, sb + 1 = qb := ⟨_, rfl⟩
  simp only [hsb, hqb] at hbs hbq ⊢
  have H0 := Hd.mk (H.out.fr hf0)
  have HF0 := Hd.mk hf0
  have HSB0 := Hd.mk hbs
  have HQB0 := Hd.mk hbq
  have hl64 := H.out.len
  clear hf0 hbs hbq hsb hqb
  go_wp2_with fail
  go_loopw [5] (fun i wr => ∃ j : Nat, j ≤ s.l.length ∧ i = .int .i64 j ∧ (∀ i (h : i < s.l.length), i < j → (fun a : Sl => a.used && decide (a.x.q = q)) s.l[i] = false) ∧ Fr [] w0 wr) (fun i _ => s.l.length - (intOf i).toNat)
  case atStart => exact ⟨0, Nat.zero_le _, rfl, fun _ _ h => absurd h (Nat.not_lt_zero _), Fr.refl _ _⟩
  case round =>
    obtain ⟨j, hj, rfl, hno, hfr⟩ := hrel
    have HF := Hd.mk hfr
    have HNO := Hd.mk hno
    have HSB := Hd.mk (HSB0.out.fr hfr (by simp))
    have HQB := Hd.mk (HQB0.out.fr hfr (by simp))
    have HR := Hd.mk (H0.out.fr hfr)
    clear hno hfr
    obtain ⟨b0, b1, b2, b3, -⟩ := HSB.out.cells4
    by_cases hjl : j < s.l.length
    · have hgj : s.l[j]? = some s.l[j] := List.getElem?_eq_getElem hjl
      obtain ⟨a, ha⟩ : ∃ a, s.l[j] = a := ⟨_, rfl⟩
      rw [ha] at hgj
      have HA := Hd.mk ha
      have hcu := HR.out.use hgj
      have hx := HR.out.ent hgj
      have HCX := Hd.mk (And.intro (show wr.cell? ⟨gx, j * 7, none⟩ = some (.string a.x.q.name) from hx 0 _ (by omega) rfl) (And.intro (hx 1 _ (by omega) rfl) (hx 2 _ (by omega) rfl)))
      clear ha hx hgj
      cases hu : a.used with
      | false =>
        rw [hu] at hcu
        have HCU := Hd.mk hcu
        have HU := Hd.mk hu
        clear hcu hu
        go_wp2_with fail
        clear b0 b1 b2 b3
        refine wp_region_gs { R := Fr [], R1 := Fr [], gs := [Is (.pointer (some ⟨sb, 1, none⟩)), Is (.slice (some ⟨gu, 0, none⟩) s.l.length cu), Is (.int .i64 j), Is (.pointer (some ⟨gu, j, none⟩)), Is (.bool false), Is (.bool false), No, No, No, No, No, No, No, No, Is (.bool false)], ds := [some 13, some 14, some 15, some 16, some 17, some 18, some 19, some 20, some 21, some 22, some 23, some 24, some 25, some 26, some 27], fl := [false, false, false, false, false, false, false, false, false, false, false, false, false, false, false], hs := [], hd := [] } [false, false, false, false, false, false, false, false, false, false, false, false, false, true, true, true, true, true, true, true, true, true, true, true, true, true, true, true, false] (by kernel_rfl) _ (by kernel_rfl) (by kernel_rfl) (by kernel_rfl) (by kernel_rfl) rfl [] (fun _ _ _ h1 h2 => h1.trans h2) (fun _ _ h => h) (staI (staI (staI (staI (staI (staI (staN (staN (staN (staN (staN (staN (staN (staN (staI sta0))))))))))))))) sth0 (fun _ _ h => h.size) _ (Fr.refl _ _) trivial ?_ ?_
        · refine ⟨?_, ?_, ?_, ?_, ?_, ?_, ?_, ?_, ?_, ?_, ?_, ?_, ?_, ?_, ?_, trivial⟩
          · intro σ w' hR hd
            simp only [fill, Nat.reduceAdd, if_true, Bool.false_eq_true, if_false]
            clear hd
            go_wp2
            exact ⟨Fr.refl _ _, rfl⟩
          · intro σ w' hR hd
            simp only [fill, Nat.reduceAdd, if_true, Bool.false_eq_true, if_false]
            obtain h13 : σ 13 = _ := hd 0 (by decide)
            rw [h13]
            clear h13
            clear hd
            obtain ⟨b0, b1, b2, b3, -⟩ := (HSB.out.fr ((Fr.drew (Fr.refl [] _)).trans hR) (by simp)).cells4
            go_wp2
            exact ⟨Fr.refl _ _, rfl⟩
          · intro σ w' hR hd
            simp only [fill, Nat.reduceAdd, if_true, Bool.false_eq_true, if_false]
            clear hd
            go_wp2
            exact ⟨Fr.refl _ _, rfl⟩
          · intro σ w' hR hd
            simp only [fill, Nat.reduceAdd, if_true, Bool.false_eq_true, if_false]
            obtain h14 : σ 14 = _ := hd 1 (by decide)
            obtain h15 : σ 15 = _ := hd 2 (by decide)
            rw [h14, h15]
            clear h14 h15
            clear hd
            go_wp2
            exact ⟨Fr.refl _ _, rfl⟩
          · intro σ w' hR hd
            simp only [fill, Nat.reduceAdd, if_true, Bool.false_eq_true, if_false]
            obtain h16 : σ 16 = _ := hd 3 (by decide)
            rw [h16]
            clear h16
            clear hd
            have k1 := ((Fr.drew (Fr.refl [] _)).trans hR).cell HCU.out (by simp)
            go_wp2
            exact ⟨Fr.refl _ _, rfl⟩
          · intro σ w' hR hd
            simp only [fill, Nat.reduceAdd, if_true, Bool.false_eq_true, if_false]
            obtain h17 : σ 17 = _ := hd 4 (by decide)
            rw [h17]
            clear h17
            clear hd
            go_wp2
            exact ⟨Fr.refl _ _, rfl⟩
          · intro σ w' hR hd
            simp only [fill, Nat.reduceAdd, if_true, Bool.false_eq_true, if_false]
            obtain h18 : σ 18 = _ := hd 5 (by decide)
            rw [h18]
            clear h18
            clear hd
            go_wp2
            exact ⟨Fr.refl _ _, trivial⟩
          · intro σ w' hR hd
            simp only [fill, Nat.reduceAdd, if_true, Bool.false_eq_true, if_false]
            obtain h18 : σ 18 = _ := hd 5 (by decide)
            rw [h18]
            clear h18
            clear hd
            go_wp2
            exact ⟨Fr.refl _ _, trivial⟩
          · intro σ w' hR hd
            simp only [fill, Nat.reduceAdd, if_true, Bool.false_eq_true, if_false]
            obtain h18 : σ 18 = _ := hd 5 (by decide)
            rw [h18]
            clear h18
            clear hd
            go_wp2
            exact ⟨Fr.refl _ _, trivial⟩
          · intro σ w' hR hd
            simp only [fill, Nat.reduceAdd, if_true, Bool.false_eq_true, if_false]
            obtain h18 : σ 18 = _ := hd 5 (by decide)
            rw [h18]
            clear h18
            clear hd
            go_wp2
            exact ⟨Fr.refl _ _, trivial⟩
          · intro σ w' hR hd
            simp only [fill, Nat.reduceAdd, if_true, Bool.false_eq_true, if_false]
            obtain h18 : σ 18 = _ := hd 5 (by decide)
            rw [h18]
            clear h18
            clear hd
            go_wp2
            exact ⟨Fr.refl _ _, trivial⟩
          · intro σ w' hR hd
            simp only [fill, Nat.reduceAdd, if_true, Bool.false_eq_true, if_false]
            obtain h18 : σ 18 = _ := hd 5 (by decide)
            rw [h18]
            clear h18
            clear hd
            go_wp2
            exact ⟨Fr.refl _ _, trivial⟩
          · intro σ w' hR hd
            simp only [fill, Nat.reduceAdd, if_true, Bool.false_eq_true, if_false]
            obtain h18 : σ 18 = _ := hd 5 (by decide)
            rw [h18]
            clear h18
            clear hd
            go_wp2
            exact ⟨Fr.refl _ _, trivial⟩
          · intro σ w' hR hd
            simp only [fill, Nat.reduceAdd, if_true, Bool.false_eq_true, if_false]
            obtain h18 : σ 18 = _ := hd 5 (by decide)
            rw [h18]
            clear h18
            clear hd
            go_wp2
            exact ⟨Fr.refl _ _, trivial⟩
          · intro σ w' hR hd
            simp only [fill, Nat.reduceAdd, if_true, Bool.false_eq_true, if_false]
            obtain h18 : σ 18 = _ := hd 5 (by decide)
            rw [h18]
            clear h18
            clear hd
            go_wp2
            exact ⟨Fr.refl _ _, rfl⟩
        · intro σ w3 hR hG hH
          obtain h27 : σ 27 = _ := hG 14 (by decide)
          simp only [fill, Nat.reduceAdd, if_true, Bool.false_eq_true, if_false, h27]
          clear h27
          clear hG
          have HF2 := Hd.mk (HF.out.trans ((Fr.drew (Fr.refl [] _)).trans hR))
          clear hR hH
          go_wp2
          go_roundw
          case rel => exact ⟨j + 1, by omega, by go_num, fun i h hi => by
            rcases Nat.lt_or_ge i j with h1 | h1
            · exact HNO.out i h h1
            · have e : i = j := by omega
              subst e
              rw [HA.out]; simp [HU.out], HF2.out⟩
          case measure => simp [intOf]; omega
      | true =>
        rw [hu] at hcu
        have HCU := Hd.mk hcu
        have HU := Hd.mk hu
        obtain ⟨B, hB⟩ : ∃ B, decide (a.x.q = q) = B := ⟨_, rfl⟩
        have HBB := Hd.mk ((qn_eqb a.x.q q).trans hB)
        have HB := Hd.mk hB
        clear hcu hu hB
        go_wp2_with fail
        clear b0 b1 b2 b3
        refine wp_region_gs { R := Fr [], R1 := Fr [], gs := [Is (.pointer (some ⟨sb, 1, none⟩)), Is (.slice (some ⟨gu, 0, none⟩) s.l.length cu), Is (.int .i64 j), Is (.pointer (some ⟨gu, j, none⟩)), Is (.bool true), Is (.bool true), Is (.pointer (some ⟨sb, 0, none⟩)), Is (.slice (some ⟨gx, 0, none⟩) s.l.length cx), Is (.int .i64 j), Is (.pointer (some ⟨gx, j * 7, none⟩)), Is (.pointer (some ⟨gx, j * 7, none⟩)), Is (.agg #[.string a.x.q.name, .int .u16 a.x.q.ty, .int .u16 a.x.q.cl]), Is (.agg #[.string q.name, .int .u16 q.ty, .int .u16 q.cl]), Is (.bool B), Is (.bool B)], ds := [some 13, some 14, some 15, some 16, some 17, some 18, some 19, some 20, some 21, some 22, some 23, some 24, some 25, some 26, some 27], fl := [false, false, false, false, false, false, false, false, false, false, false, false, false, false, false], hs := [], hd := [] } [false, false, false, false, false, false, false, false, false, false, false, false, false, true, true, true, true, true, true, true, true, true, true, true, true, true, true, true, false] (by kernel_rfl) _ (by kernel_rfl) (by kernel_rfl) (by kernel_rfl) (by kernel_rfl) rfl [] (fun _ _ _ h1 h2 => h1.trans h2) (fun _ _ h => h) (staI (staI (staI (staI (staI (staI (staI (staI (staI (staI (staI (staI (staI (staI (staI sta0))))))))))))))) sth0 (fun _ _ h => h.size) _ (Fr.refl _ _) trivial ?_ ?_
        · refine ⟨?_, ?_, ?_, ?_, ?_, ?_, ?_, ?_, ?_, ?_, ?_, ?_, ?_, ?_, ?_, trivial⟩
          · intro σ w' hR hd
            simp only [fill, Nat.reduceAdd, if_true, Bool.false_eq_true, if_false]
            clear hd
            go_wp2
            exact ⟨Fr.refl _ _, rfl⟩
          · intro σ w' hR hd
            simp only [fill, Nat.reduceAdd, if_true, Bool.false_eq_true, if_false]
            obtain h13 : σ 13 = _ := hd 0 (by decide)
            rw [h13]
            clear h13
            clear hd
            obtain ⟨b0, b1, b2, b3, -⟩ := (HSB.out.fr ((Fr.drew (Fr.refl [] _)).trans hR) (by simp)).cells4
            go_wp2
            exact ⟨Fr.refl _ _, rfl⟩
          · intro σ w' hR hd
            simp only [fill, Nat.reduceAdd, if_true, Bool.false_eq_true, if_false]
            clear hd
            go_wp2
            exact ⟨Fr.refl _ _, rfl⟩
          · intro σ w' hR hd
            simp only [fill, Nat.reduceAdd, if_true, Bool.false_eq_true, if_false]
            obtain h14 : σ 14 = _ := hd 1 (by decide)
            obtain h15 : σ 15 = _ := hd 2 (by decide)
            rw [h14, h15]
            clear h14 h15
            clear hd
            go_wp2
            exact ⟨Fr.refl _ _, rfl⟩
          · intro σ w' hR hd
            simp only [fill, Nat.reduceAdd, if_true, Bool.false_eq_true, if_false]
            obtain h16 : σ 16 = _ := hd 3 (by decide)
            rw [h16]
            clear h16
            clear hd
            have k1 := ((Fr.drew (Fr.refl [] _)).trans hR).cell HCU.out (by simp)
            go_wp2
            exact ⟨Fr.refl _ _, rfl⟩
          · intro σ w' hR hd
            simp only [fill, Nat.reduceAdd, if_true, Bool.false_eq_true, if_false]
            obtain h17 : σ 17 = _ := hd 4 (by decide)
            rw [h17]
            clear h17
            clear hd
            go_wp2
            exact ⟨Fr.refl _ _, rfl⟩
          · intro σ w' hR hd
            simp only [fill, Nat.reduceAdd, if_true, Bool.false_eq_true, if_false]
            obtain h18 : σ 18 = _ := hd 5 (by decide)
            rw [h18]
            clear h18
            clear hd
            go_wp2
            exact ⟨Fr.refl _ _, rfl⟩
          · intro σ w' hR hd
            simp only [fill, Nat.reduceAdd, if_true, Bool.false_eq_true, if_false]
            obtain h18 : σ 18 = _ := hd 5 (by decide)
            obtain h19 : σ 19 = _ := hd 6 (by decide)
            rw [h18, h19]
            clear h18 h19
            clear hd
            obtain ⟨b0, b1, b2, b3, -⟩ := (HSB.out.fr ((Fr.drew (Fr.refl [] _)).trans hR) (by simp)).cells4
            go_wp2
            exact ⟨Fr.refl _ _, rfl⟩
          · intro σ w' hR hd
            simp only [fill, Nat.reduceAdd, if_true, Bool.false_eq_true, if_false]
            obtain h18 : σ 18 = _ := hd 5 (by decide)
            rw [h18]
            clear h18
            clear hd
            go_wp2
            exact ⟨Fr.refl _ _, rfl⟩
          · intro σ w' hR hd
            simp only [fill, Nat.reduceAdd, if_true, Bool.false_eq_true, if_false]
            obtain h18 : σ 18 = _ := hd 5 (by decide)
            obtain h20 : σ 20 = _ := hd 7 (by decide)
            obtain h21 : σ 21 = _ := hd 8 (by decide)
            rw [h18, h20, h21]
            clear h18 h20 h21
            clear hd
            go_wp2
            exact ⟨Fr.refl _ _, rfl⟩
          · intro σ w' hR hd
            simp only [fill, Nat.reduceAdd, if_true, Bool.false_eq_true, if_false]
            obtain h18 : σ 18 = _ := hd 5 (by decide)
            obtain h22 : σ 22 = _ := hd 9 (by decide)
            rw [h18, h22]
            clear h18 h22
            clear hd
            go_wp2
            exact ⟨Fr.refl _ _, rfl⟩
          · intro σ w' hR hd
            simp only [fill, Nat.reduceAdd, if_true, Bool.false_eq_true, if_false]
            obtain h18 : σ 18 = _ := hd 5 (by decide)
            obtain h23 : σ 23 = _ := hd 10 (by decide)
            rw [h18, h23]
            clear h18 h23
            clear hd
            have y0 := ((Fr.drew (Fr.refl [] _)).trans hR).cell HCX.out.1 (by simp)
            have y1 := ((Fr.drew (Fr.refl [] _)).trans hR).cell HCX.out.2.1 (by simp)
            have y2 := ((Fr.drew (Fr.refl [] _)).trans hR).cell HCX.out.2.2 (by simp)
            go_wp2
            exact ⟨Fr.refl _ _, rfl⟩
          · intro σ w' hR hd
            simp only [fill, Nat.reduceAdd, if_true, Bool.false_eq_true, if_false]
            obtain h18 : σ 18 = _ := hd 5 (by decide)
            rw [h18]
            clear h18
            clear hd
            obtain ⟨r0, r1, r2, rf⟩ := (HQB.out.fr ((Fr.drew (Fr.refl [] _)).trans hR) (by simp)).cells3
            go_wp2
            exact ⟨Fr.refl _ _, rfl⟩
          · intro σ w' hR hd
            simp only [fill, Nat.reduceAdd, if_true, Bool.false_eq_true, if_false]
            obtain h18 : σ 18 = _ := hd 5 (by decide)
            obtain h24 : σ 24 = _ := hd 11 (by decide)
            obtain h25 : σ 25 = _ := hd 12 (by decide)
            rw [h18, h24, h25]
            clear h18 h24 h25
            clear hd
            have hbb := HBB.out
            go_wp2
            exact ⟨Fr.refl _ _, rfl⟩
          · intro σ w' hR hd
            simp only [fill, Nat.reduceAdd, if_true, Bool.false_eq_true, if_false]
            obtain h18 : σ 18 = _ := hd 5 (by decide)
            obtain h26 : σ 26 = _ := hd 13 (by decide)
            rw [h18, h26]
            clear h18 h26
            clear hd
            go_wp2
            exact ⟨Fr.refl _ _, rfl⟩
        · intro σ w3 hR hG hH
          obtain h27 : σ 27 = _ := hG 14 (by decide)
          simp only [fill, Nat.reduceAdd, if_true, Bool.false_eq_true, if_false, h27]
          clear h27
          clear hG
          have HF2 := Hd.mk (HF.out.trans ((Fr.drew (Fr.refl [] _)).trans hR))
          clear hR hH
          cases B with
          | true =>
            have HFI := Hd.mk ((findIdx_from (q := q) _ rfl (Nat.le_of_lt hjl) HNO.out).1 hjl (by rw [HA.out, HU.out, HB.out]; rfl))
            go_wp2
            go_ret
            exact ⟨by unfold ratV; rw [HFI.out]; rfl, HF0.out.trans HF2.out⟩
          | false =>
            go_wp2
            go_roundw
            case rel => exact ⟨j + 1, by omega, by go_num, fun i h hi => by
              rcases Nat.lt_or_ge i j with h1 | h1
              · exact HNO.out i h h1
              · have e : i = j := by omega
                subst e
                rw [HA.out]; simp only [HU.out, HB.out]; rfl, HF2.out⟩
            case measure => simp [intOf]; omega
    · have hje : j = s.l.length := by omega
      have HFI := Hd.mk ((findIdx_from (q := q) _ rfl hj HNO.out).2 hje)
      go_wp2
      go_ret
      exact ⟨by unfold ratV; rw [HFI.out]; rfl, HF0.out.trans HF.out⟩
end Go.Proofs.Ytjfhdffmlnkooaa
