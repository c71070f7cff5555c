import Derived.Test.YtenilmcndapaeaaQ3
import Derived.Test.YtenilmcndapaeaaReg2
import Derived.Test.YtenilmcndapaeaaFrT
namespace Go.Proofs.Ytenilmcndapaeaa
open Go.RowKit

/-- A list of deeds that came in. -/
def DeedsAt (w : World) (v : Value) (ds : List Dd) : Prop :=
  (ds = [] ∧ ∃ ao c, v = .slice ao 0 c) ∨
  ∃ b off c, v = .slice (some ⟨b, off, none⟩) ds.length c ∧ 0 < ds.length ∧ ds.length ≤ 9223372036854775807 ∧ b < w.heap.size ∧
    ∀ i (h : i < ds.length), w.cell? ⟨b, off + i * 3, none⟩ = some (.int .i64 ds[i].kind) ∧ w.cell? ⟨b, off + i * 3 + 1, none⟩ = some (.int .i64 ds[i].i) ∧ w.cell? ⟨b, off + i * 3 + 2, none⟩ = some (.string ds[i].x)

theorem RefAt.frT {w w' : World} {N gx cx gu cu gt ct : Nat} {s : SS} {S : List Nat} (h : RefAt w gx cx gu cu gt ct s) (hf : FrT N S 30 w w') (h1 : gx ∉ S) (h2 : gu ∉ S) (h3 : gt ∉ S) : RefAt w' gx cx gu cu gt ct s :=
  ⟨own_frT h.x hf (by simpa [Value.ownBlock] using h1) (by decide), own_frT h.u hf (by simpa [Value.ownBlock] using h2) (by decide), own_frT h.t hf (by simpa [Value.ownBlock] using h3) (by decide), h.hand, h.len⟩

theorem put_len (s : SS) (x : ByteArray) : (s.put x).1.l.length = s.l.length := by unfold SS.put; split <;> simp [SS.at]
theorem does_len (s : SS) (d : Dd) : (s.does d).l.length = s.l.length := by
  unfold SS.does
  split
  · exact put_len _ _
  · split
    · rfl
    · split
      · unfold SS.touch; split <;> simp [SS.at]
      · split
        · unfold SS.free; split <;> simp [SS.at]
        · split
          · unfold SS.set; split <;> simp [SS.at]
          · exact SS.vic_len _ _

/-- What 'do' hands back. -/
def DoV (p b : Nat) (w : World) (s t : SS) (d : Dd) (v : Value) : Prop :=
  ∃ (gx cx gu cu gt ct : Nat) (r : Bool), v = .tuple #[refV gx cx gu cu gt ct (t.does d).l.length (t.does d).hand, .bool r] ∧ RefAt w gx cx gu cu gt ct (t.does d) ∧ (gx ∉ [p, b] ∧ gu ∉ [p, b] ∧ gt ∉ [p, b]) ∧ (s = t → r = true)
def RefVal (p b : Nat) (w : World) (t : SS) (v : Value) : Prop := ∃ (gx cx gu cu gt ct : Nat), v = refV gx cx gu cu gt ct t.l.length t.hand ∧ RefAt w gx cx gu cu gt ct t ∧ (gx ∉ [p, b] ∧ gu ∉ [p, b] ∧ gt ∉ [p, b])
def refCells (v : Value) : List Value := v.cells.toList
/-- y, same := do(s, x, l[i]): the region that each law's loop has. -/
def doG (p b : Nat) (s t : SS) (d : Dd) (N : Nat) (vx va ve : Value) (k : Nat) : Nat → List Value → World → Prop
  | 0, [v], _ => v = .pointer (some ⟨p, 0, none⟩)
  | 1, [v], _ => v = vx
  | 2, [v], _ => v = va
  | 3, [v], _ => v = .int .i64 k
  | 4, [v], _ => v = ve
  | 5, [v], _ => v = d.v
  | 6, [v], w => DoV p b w s t d v
  | 7, [v], w => DoV p b w s t d v
  | 8, [v], w => RefVal p b w (t.does d) v
  | 9, [v], _ => ∃ r, v = .bool r ∧ (s = t → r = true)
  | 10, [v], w => ∃ q, v = .pointer (some ⟨q, 0, none⟩) ∧ N ≤ q ∧ q ∉ [p, b] ∧ BlkN w q 30 4
  | 11, [], _ => True
  | 12, [v], _ => ∃ r, v = .bool r ∧ (s = t → r = true)
  | _, _, _ => False
def doH (p b : Nat) (s t : SS) (d : Dd) (N : Nat) : Nat → List Value → World → Prop
  | 0, [], w => SlotsAt w p b s
  | 1, [], w => SlotsAt w p b (s.does d)
  | 2, [v6, v28], w => SlotsAt w p b (s.does d) ∧ ∃ q, v6 = .pointer (some ⟨q, 0, none⟩) ∧ N ≤ q ∧ RefVal p b w (t.does d) v28 ∧ Blk w q 30 (refCells v28)
  | _, _, _ => False
def doCtx (p b : Nat) (s t : SS) (d : Dd) (N : Nat) (vx va ve : Value) (k : Nat) (sl : List Nat) : PhCtx where
  R := FrT N [p, b] 30
  R1 := Fr []
  G := doG p b s t d N vx va ve k
  H := doH p b s t d N
  sup := fun i => if i = 11 then [] else if i = 12 then [sl.getD 11 0] else if i < 11 then [sl.getD i 0] else []
  supH := fun k => if k = 2 then [sl.getD 10 0, sl.getD 8 0] else []
  loud := fun i => i == 6 || i == 11
  nw := fun _ => false

theorem RefVal.frT {w w' : World} {N p b : Nat} {t : SS} {v : Value} (h : RefVal p b w t v) (hf : FrT N [p, b] 30 w w') : RefVal p b w' t v := by
  obtain ⟨gx, cx, gu, cu, gt, ct, rfl, hr, h1, h2, h3⟩ := h
  exact ⟨gx, cx, gu, cu, gt, ct, rfl, hr.frT hf h1 h2 h3, h1, h2, h3⟩
theorem DoV.frT {w w' : World} {N p b : Nat} {s t : SS} {d : Dd} {v : Value} (h : DoV p b w s t d v) (hf : FrT N [p, b] 30 w w') : DoV p b w' s t d v := by
  obtain ⟨gx, cx, gu, cu, gt, ct, r, rfl, hr, ⟨h1, h2, h3⟩, h4⟩ := h
  exact ⟨gx, cx, gu, cu, gt, ct, r, rfl, hr.frT hf h1 h2 h3, ⟨h1, h2, h3⟩, h4⟩
theorem doG_stable {p b : Nat} {s t : SS} {d : Dd} {N : Nat} {vx va ve : Value} {k : Nat} : ∀ i l w w', FrT N [p, b] 30 w w' → doG p b s t d N vx va ve k i l w → doG p b s t d N vx va ve k i l w' := by
  intro i l w w' hf h
  match i, l, h with
  | 0, [v], h => exact h
  | 1, [v], h => exact h
  | 2, [v], h => exact h
  | 3, [v], h => exact h
  | 4, [v], h => exact h
  | 5, [v], h => exact h
  | 6, [v], h => exact DoV.frT h hf
  | 7, [v], h => exact DoV.frT h hf
  | 8, [v], h => exact RefVal.frT h hf
  | 9, [v], h => exact h
  | 10, [v], ⟨q, h1, h2, h3, h4⟩ => exact ⟨q, h1, h2, h3, h4.frT hf h3⟩
  | 11, [], h => exact h
  | 12, [v], h => exact h
theorem doH_stable {p b : Nat} {s t : SS} {d : Dd} {N : Nat} : ∀ k l w w', Fr [] w w' → doH p b s t d N k l w → doH p b s t d N k l w' := by
  intro k l w w' hf h
  match k, l, h with
  | 0, [], h => exact SlotsAt.fr h hf (by simp) (by simp)
  | 1, [], h => exact SlotsAt.fr h hf (by simp) (by simp)
  | 2, [v6, v28], ⟨h1, q, h2, h3, h4, h5⟩ => exact ⟨h1.fr hf (by simp) (by simp), q, h2, h3, h4.frT (N := N) (FrT.of (hf.mono (by simp))), h5.fr hf (by simp)⟩

set_option maxRecDepth 100000 in
set_option maxHeartbeats 4000000 in
theorem ran_any {w : World} {v : Value} {ds : List Dd} (h : DeedsAt w v ds) :
    Calls Try.prog 18 #[v] w fun e w' => ∃ p b s, e = .returned (.pointer (some ⟨p, 0, none⟩)) ∧ SlotsAt w' p b s ∧ s.l.length = 8 ∧ Fr [] w w' ∧ w.heap.size ≤ p ∧ w.heap.size ≤ b := by
  rcases h with ⟨-, ao, c, rfl⟩ | ⟨vb, off, c, rfl, hpos, hle, hvb, hcells⟩
  · go_enter Try.func18, Try.ntmps18
    go_wp2_with fail
    refine (new_yes 8 (by omega) (by omega) w).mono ?_
    rintro e w1 ⟨p, b, rfl, h1, f1, hp, hb⟩
    go_wp2_with fail
    refine (rnew_any 8 (by omega) (by omega) w1).mono ?_
    rintro e w2 ⟨gx, cx, gu, cu, gt, ct, rfl, h2, f2, -⟩
    unfold refV
    go_wp2_with fail
    refine wp_loop_rounds 1 ?_; rw [rounds_succ]
    go_wp2
    go_ret
    exact ⟨p, b, _, rfl, (h1.fr f2 (by simp) (by simp)).fr ((Fr.refl [] w2).alloc _) (by simp) (by simp), by simp, (f1.trans f2).alloc _, hp, hb⟩
  · go_enter Try.func18, Try.ntmps18
    go_wp2_with fail
    refine (new_yes 8 (by omega) (by omega) w).mono ?_
    rintro e w1 ⟨p, b, rfl, h1, f1, hp, hb⟩
    go_wp2_with fail
    refine (rnew_any 8 (by omega) (by omega) w1).mono ?_
    rintro e w2 ⟨gx, cx, gu, cu, gt, ct, rfl, h2, f2, -⟩
    have hlp := h1.own.lt
    have hlb := h1.row.lt
    have hz2 := f2.size
    have hw2 : w2.heap.size ∉ [p, b] := by simp; omega
    have hwY : w.heap.size ≤ w2.heap.size := by have := f1.size; omega
    generalize hY : w2.heap.size = Y at hw2 hwY
    have hY := hid hY
    unfold refV
    go_wp2_with fail
    go_loopw [5] (fun i wr => ∃ (k : Nat) (s t : SS) (gx cx gu cu gt ct : Nat), i = .int .i64 k ∧ k ≤ ds.length ∧ SlotsAt wr p b s ∧ s.l.length = 8 ∧ RefAt wr gx cx gu cu gt ct t ∧
      Blk wr Y 30 [.slice (some ⟨gx, 0, none⟩) t.l.length cx, .slice (some ⟨gu, 0, none⟩) t.l.length cu, .slice (some ⟨gt, 0, none⟩) t.l.length ct, .int .i64 t.hand] ∧ Fr [] w wr) (fun i _ => ds.length - (intOf i).toNat)
    case atStart =>
      have hB : Blk (w2.alloc (.cells #[.slice (some ⟨gx, 0, none⟩) 8 cx, .slice (some ⟨gu, 0, none⟩) 8 cu, .slice (some ⟨gt, 0, none⟩) 8 ct, .int .i64 0] 30)) Y 30 [.slice (some ⟨gx, 0, none⟩) 8 cx, .slice (some ⟨gu, 0, none⟩) 8 cu, .slice (some ⟨gt, 0, none⟩) 8 ct, .int .i64 0] := by rw [← hY.out]; exact Blk.new _ _ _
      refine ⟨0, _, SS.fresh 8, gx, cx, gu, cu, gt, ct, rfl, Nat.zero_le _, (h1.fr f2 (by simp) (by simp)).fr ((Fr.refl [] w2).alloc _) (by simp) (by simp), by simp, h2.fr ((Fr.refl [] w2).alloc _) (by simp) (by simp) (by simp), ?_, (f1.trans f2).alloc _⟩
      simpa [SS.fresh] using hB
    case round =>
      clear h1 f1 h2 f2 hz2 hY
      obtain ⟨k, s, t, gx, cx, gu, cu, gt, ct, rfl, hk, hs, hs8, ht, hbx, hfr⟩ := hrel
      obtain ⟨hn1, hn2, hn3⟩ := hs.refl_ne ht
      have hYn : Y ∉ [p, b] := hw2
      by_cases hlt : k < ds.length
      · by_cases h300 : k < 300
        · obtain ⟨hc0, hc1, hc2⟩ := hcells k hlt
          have hc0 := hfr.cell hc0 (by simp)
          have hc1 := hfr.cell hc1 (by simp)
          have hc2 := hfr.cell hc2 (by simp)
          have hvbn : vb ∉ [p, b] := by simp; omega
          have hvbl : vb < wr.heap.size := Nat.lt_of_lt_of_le hvb hfr.size
          have hlp' := hs.own.lt
          have hlb' := hs.row.lt
          go_upto_region 6 with (fail)
          have hs0 : (doCtx p b s t ds[k] wr.heap.size (refV gx cx gu cu gt ct t.l.length t.hand) (.slice (some ⟨vb, off, none⟩) ds.length c) (.pointer (some ⟨vb, off + k * 3, none⟩)) k [21, 22, 23, 24, 25, 26, 27, 20, 28, 29, 6, 7]).H 0 [] wr.drew := hs.fr (Fr.drew (Fr.refl [] wr)) (by simp) (by simp)
          refine wp_region_psteps (doCtx p b s t ds[k] wr.heap.size (refV gx cx gu cu gt ct t.l.length t.hand) (.slice (some ⟨vb, off, none⟩) ds.length c) (.pointer (some ⟨vb, off + k * 3, none⟩)) k [21, 22, 23, 24, 25, 26, 27, 20, 28, 29, 6, 7]) [false, false, false, false, false, false, true, true, false, false, false, false, false, false, false, false, false, false, false, false, true, true, true, true, true, true, true, true, true, true, false, false] (by kernel_rfl) _ (by kernel_rfl) (by kernel_rfl) (by kernel_rfl) (by kernel_rfl) [] (fun _ _ _ h1 h2 => h1.trans h2) (fun _ _ h => FrT.of (h.mono (by simp))) doG_stable doH_stable (fun _ _ h => h.size) _ (FrT.of (Fr.refl _ _)) hs0 ?_ ?_
          · clear hcells
            refine ⟨?_, ?_, ?_, ?_, ?_, ?_, ?_, ?_, ?_, ?_, ?_, ?_, ?_, trivial⟩
            all_goals intro σ w' hR hd hH
            all_goals simp only [fill, Nat.reduceAdd, if_true, Bool.false_eq_true, if_false]
            · go_wp2
              exact ⟨FrT.of (Fr.refl _ _), rfl, fun h => (Bool.false_ne_true h).elim, fun _ => Fr.refl _ _, fun h => (Bool.false_ne_true h).elim⟩
            · obtain ⟨b0, b1, b2, b3, -⟩ := (hbx.drew.frT hR hYn (.inl hbx.lt)).cells4
              go_wp2
              exact ⟨FrT.of (Fr.refl _ _), rfl, fun h => (Bool.false_ne_true h).elim, fun _ => Fr.refl _ _, fun h => (Bool.false_ne_true h).elim⟩
            · go_wp2
              exact ⟨FrT.of (Fr.refl _ _), rfl, fun h => (Bool.false_ne_true h).elim, fun _ => Fr.refl _ _, fun h => (Bool.false_ne_true h).elim⟩
            · go_wp2
              exact ⟨FrT.of (Fr.refl _ _), rfl, fun h => (Bool.false_ne_true h).elim, fun _ => Fr.refl _ _, fun h => (Bool.false_ne_true h).elim⟩
            · obtain h1 : σ 23 = _ := hd 2 (by decide)
              obtain h2 : σ 24 = _ := hd 3 (by decide)
              rw [h1, h2]
              clear h1 h2 hd hH
              go_wp2
              exact ⟨FrT.of (Fr.refl _ _), rfl, fun h => (Bool.false_ne_true h).elim, fun _ => Fr.refl _ _, fun h => (Bool.false_ne_true h).elim⟩
            · obtain h1 : σ 25 = _ := hd 4 (by decide)
              rw [h1]
              clear h1 hd hH
              have c0 := hR.cell (a := ⟨vb, off + k * 3, none⟩) hc0 hvbn hvbl
              have c1 := hR.cell (a := ⟨vb, off + k * 3 + 1, none⟩) hc1 hvbn hvbl
              have c2 := hR.cell (a := ⟨vb, off + k * 3 + 2, none⟩) hc2 hvbn hvbl
              go_wp2
              exact ⟨FrT.of (Fr.refl _ _), rfl, fun h => (Bool.false_ne_true h).elim, fun _ => Fr.refl _ _, fun h => (Bool.false_ne_true h).elim⟩
            · obtain h1 : σ 21 = _ := hd 0 (by decide)
              obtain h2 : σ 22 = _ := hd 1 (by decide)
              obtain h3 : σ 26 = _ := hd 5 (by decide)
              rw [h1, h2, h3]
              have hsw : SlotsAt w' p b s := hH rfl
              have htw := (ht.fr (Fr.drew (Fr.refl [] wr)) (by simp) (by simp) (by simp)).frT hR hn1 hn2 hn3
              clear h1 h2 h3 hd hH
              go_wp2_with fail
              refine (do_any hsw htw ds[k]).mono ?_
              rintro e w2 ⟨gx', cx', gu', cu', gt', ct', r, rfl, hs2, hr2, hst, hf2⟩
              go_wp2_with fail
              exact ⟨FrT.of hf2, ⟨gx', cx', gu', cu', gt', ct', r, rfl, hr2, hs2.refl_ne hr2, hst⟩, fun _ => hs2, fun h => (Bool.false_ne_true h.symm).elim, fun h => (Bool.false_ne_true h).elim⟩
            · obtain ⟨gx', cx', gu', cu', gt', ct', r, h1, h2⟩ : DoV p b w' s t ds[k] (σ 27) := hd 6 (by decide)
              rw [h1]
              clear h1 hd hH
              go_wp2
              exact ⟨FrT.of (Fr.refl _ _), ⟨gx', cx', gu', cu', gt', ct', r, rfl, h2⟩, fun h => (Bool.false_ne_true h).elim, fun _ => Fr.refl _ _, fun h => (Bool.false_ne_true h).elim⟩
            · obtain ⟨gx', cx', gu', cu', gt', ct', r, h1, h2, h3, h4⟩ : DoV p b w' s t ds[k] (σ 20) := hd 7 (by decide)
              rw [h1]
              clear h1 hd hH
              go_wp2
              exact ⟨FrT.of (Fr.refl _ _), ⟨gx', cx', gu', cu', gt', ct', rfl, h2, h3⟩, fun h => (Bool.false_ne_true h).elim, fun _ => Fr.refl _ _, fun h => (Bool.false_ne_true h).elim⟩
            · obtain ⟨gx', cx', gu', cu', gt', ct', r, h1, h2, h3, h4⟩ : DoV p b w' s t ds[k] (σ 20) := hd 7 (by decide)
              rw [h1]
              clear h1 hd hH
              go_wp2
              exact ⟨FrT.of (Fr.refl _ _), ⟨r, rfl, h4⟩, fun h => (Bool.false_ne_true h).elim, fun _ => Fr.refl _ _, fun h => (Bool.false_ne_true h).elim⟩
            · have hz := hR.size
              simp only [World.size_drew] at hz
              go_wp2
              exact ⟨FrT.of ((Fr.refl _ _).alloc _), ⟨_, rfl, hz, by simp; omega, _, rfl, Blk.new _ _ _⟩, fun h => (Bool.false_ne_true h).elim, fun _ => (Fr.refl _ _).alloc _, fun h => (Bool.false_ne_true h).elim⟩
            · obtain ⟨q, h1, hq, hqn, cs, hcl, hqb⟩ : ∃ q, σ 6 = .pointer (some ⟨q, 0, none⟩) ∧ wr.heap.size ≤ q ∧ q ∉ [p, b] ∧ BlkN w' q 30 4 := hd 10 (by decide)
              obtain ⟨gx', cx', gu', cu', gt', ct', h2, h3, h4⟩ : RefVal p b w' (t.does ds[k]) (σ 28) := hd 8 (by decide)
              have hsw : SlotsAt w' p b (s.does ds[k]) := hH rfl
              match cs, hcl, hqb with
              | [e0, e1, e2, e3], _, hqb =>
              rw [h1, h2]
              obtain ⟨r0, r1, r2, r3, rf⟩ := hqb.cells4
              clear hd hH
              unfold refV
              go_wp2
              clear r0 r1 r2 r3 rf
              obtain ⟨hq2, hfq⟩ := hqb.four (a' := .slice (some ⟨gx', 0, none⟩) (t.does ds[k]).l.length cx') (b' := .slice (some ⟨gu', 0, none⟩) (t.does ds[k]).l.length cu') (c' := .slice (some ⟨gt', 0, none⟩) (t.does ds[k]).l.length ct') (d' := .int .i64 (t.does ds[k]).hand) rfl
              have hFT : FrT wr.heap.size [p, b] 30 w' _ := FrT.set hfq hq hqb hq2 rfl
              simp only [List.mem_cons, List.not_mem_nil, or_false, not_or] at hqn
              have hs2 := hsw.fr hfq (by simpa using Ne.symm hqn.1) (by simpa using Ne.symm hqn.2)
              exact ⟨hFT, trivial, fun _ => ⟨hs2, q, rfl, hq, ⟨gx', cx', gu', cu', gt', ct', rfl, h3.frT hFT h4.1 h4.2.1 h4.2.2, h4⟩, hq2⟩, fun h => (Bool.false_ne_true h.symm).elim, fun h => (Bool.false_ne_true h).elim⟩
            · obtain ⟨r, h1, h2⟩ : ∃ r, σ 29 = .bool r ∧ (s = t → r = true) := hd 9 (by decide)
              rw [h1]
              clear h1 hd hH
              go_wp2
              exact ⟨FrT.of (Fr.refl _ _), ⟨r, rfl, h2⟩, fun h => (Bool.false_ne_true h).elim, fun _ => Fr.refl _ _, fun h => (Bool.false_ne_true h).elim⟩
          · intro σ w' hR hf hH hne
            simp only [fill, Nat.reduceAdd, if_true, Bool.false_eq_true, if_false]
            obtain ⟨hs2, q, h6, hq, ⟨gx', cx', gu', cu', gt', ct', h28, h29, h30⟩, hqb⟩ : SlotsAt w' p b (s.does ds[k]) ∧ ∃ q, σ 6 = .pointer (some ⟨q, 0, none⟩) ∧ wr.heap.size ≤ q ∧ RefVal p b w' (t.does ds[k]) (σ 28) ∧ Blk w' q 30 (refCells (σ 28)) := hH
            rw [h28] at hqb
            have hqb : Blk w' q 30 [.slice (some ⟨gx', 0, none⟩) (t.does ds[k]).l.length cx', .slice (some ⟨gu', 0, none⟩) (t.does ds[k]).l.length cu', .slice (some ⟨gt', 0, none⟩) (t.does ds[k]).l.length ct', .int .i64 (t.does ds[k]).hand] := hqb
            rw [h6]
            have hbx2 := hbx.drew.frT hR hYn (.inl hbx.lt)
            obtain ⟨r0, r1, r2, r3, rf⟩ := hqb.cells4
            obtain ⟨b0, b1, b2, b3, bf⟩ := hbx2.cells4
            have hqY : q ≠ Y := by have := hbx.lt; omega
            have F2 : Fr [p, b] wr w' := (Fr.drew (Fr.refl _ _)).trans (hR.fr (Nat.le_refl _))
            clear hcells
            go_wp2_with fail
            go_roundw
            case rel =>
              clear b0 b1 b2 b3 bf r0 r1 r2 r3 rf
              obtain ⟨hbx3, f3⟩ := hbx2.four rfl
              have m1 : gx' ≠ Y := own_ne h29.x hbx2 (by decide) gx' rfl
              have m2 : gu' ≠ Y := own_ne h29.u hbx2 (by decide) gu' rfl
              have m3 : gt' ≠ Y := own_ne h29.t hbx2 (by decide) gt' rfl
              simp only [List.mem_cons, List.not_mem_nil, or_false, not_or] at hYn
              have hpY : p ≠ Y := Ne.symm hYn.1
              have hbY : b ≠ Y := Ne.symm hYn.2
              exact ⟨k + 1, s.does ds[k], t.does ds[k], gx', cx', gu', cu', gt', ct', by go_num, by omega, hs2.fr f3 (by simpa using hpY) (by simpa using hbY), by rw [does_len]; exact hs8, h29.fr f3 (by simpa using m1) (by simpa using m2) (by simpa using m3), hbx3, (hfr.weak F2 (by simp; omega)).weak f3 (by simp; omega)⟩
            case measure => simp [intOf]; omega
        · go_wp2_with fail
          go_ret
          exact ⟨p, b, s, rfl, hs, hs8, hfr, hp, hb⟩
      · go_wp2_with fail
        go_ret
        exact ⟨p, b, s, rfl, hs, hs8, hfr, hp, hb⟩
end Go.Proofs.Ytenilmcndapaeaa
