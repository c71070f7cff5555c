import Derived.Test.YtbmejolmbfmdiaaH17
namespace Go.Proofs.Ytbmejolmbfmdiaa
open Go Go.RowKit Go.Lib Go.Proofs.MapL

def q1 : Qn := ⟨⟨#[1, 97, 0]⟩, 1, 1, ⟨by decide, by omega, by omega⟩⟩
def e1 : En := ⟨q1, none, 0, 0, 0, 3, 9⟩
def x1 : Ev := ⟨2, e1, 1, 0, e1, true, 0, none, 0, 0, []⟩
def y1 : Ev := ⟨1, e1, 1, 0, zeroE, false, 0, none, 0, 0, []⟩
theorem e1_ok (w : World) : RecOK w e1 := ⟨[], ⟨rfl, Nat.zero_le _, fun h => absurd h (Nat.lt_irrefl _)⟩⟩
theorem nil_ok (w : World) : SlIs Qn.c 3 w none 0 [] := ⟨rfl, Nat.zero_le _, fun h => absurd h (Nat.lt_irrefl _)⟩
theorem x1_ok (w : World) : EvOK w x1 ∧ shI x1 := ⟨⟨e1_ok w, e1_ok w, nil_ok w⟩, by show (-9223372036854775808 : Int) ≤ 0 ∧ (0 : Int) ≤ 9223372036854775807; omega⟩
theorem y1_ok (w : World) : EvOK w y1 ∧ shI y1 := ⟨⟨e1_ok w, zeroE_ok w, nil_ok w⟩, by show (-9223372036854775808 : Int) ≤ 0 ∧ (0 : Int) ≤ 9223372036854775807; omega⟩
theorem sl1 {w : World} {b T : Nat} {x : Ev} (h : Blk w b T (evC x)) : SlIs evC 20 w (some ⟨b, 0, none⟩) 1 [x] := by
  refine ⟨rfl, by simp, fun _ => ⟨b, 0, rfl, h.lt, ?_⟩⟩
  intro i hi j u hu
  have hi : i = 0 := by simpa using hi
  subst hi
  rw [show 0 + 0 * 20 + j = j by omega]
  exact h.cell hu
theorem sl2 {w : World} {b T : Nat} {x y : Ev} (h : Blk w b T (evC x ++ evC y)) : SlIs evC 20 w (some ⟨b, 0, none⟩) 2 [x, y] := by
  refine ⟨rfl, by simp, fun _ => ⟨b, 0, rfl, h.lt, ?_⟩⟩
  intro i hi j u hu
  have hl : (evC x).length = 20 := rfl
  have hl2 : (evC y).length = 20 := rfl
  rcases i with _ | _ | i
  · rw [show 0 + 0 * 20 + j = j by omega]
    have hu' : (evC x)[j]? = some u := hu
    exact h.cell (by rw [List.getElem?_append_left (List.getElem?_eq_some_iff.1 hu').1]; exact hu')
  · rw [show 0 + (0 + 1) * 20 + j = 20 + j by omega]
    have hu' : (evC y)[j]? = some u := hu
    exact h.cell (by rw [List.getElem?_append_right (by omega), hl, show 20 + j - 20 = j by omega]; exact hu')
  · simp at hi; omega
theorem evC_all (x : Ev) : (evC x).toArray.all (·.oneCell') = true := by rw [List.all_toArray, List.all_eq_true]; exact evC_cell x
theorem name_calls {P : Program} {f : FuncId} {args : Array Value} {w : World} {R : Ending → World → Prop} (h : ∀ w1, w1 = w → Calls P f args w1 R) : Calls P f args w R := h w rfl
theorem cI_one {w : World} {b T : Nat} {i : Int} (h : Blk w b T (cI i)) : SlIs cI 1 w (some ⟨b, 0, none⟩) 1 [i] := by
  refine ⟨rfl, by simp, fun _ => ⟨b, 0, rfl, h.lt, ?_⟩⟩
  intro k hk j u hu
  have hk : k = 0 := by simpa using hk
  subst hk
  rw [show 0 + 0 * 1 + j = j by omega]
  exact h.cell hu
theorem wpList_loadB {P : Program} {w : World} {ops : Array Oper} {rest : List Oper} {o : Oper} {a : Act} {Q : Exit → Act → World → Prop} {ty T b n : Nat} {x : Operand} {c : List Value} {v : Array Value}
    (hg : Region.wanted o (yielded ops a.tmps) = true) (hop : o.op = .load ty x) (ha : (isAgg ty).run P w = .ok true w) (hs : (sizeOf ty).run P w = .ok n w) (hx : a.eval x = .pointer (some ⟨b, 0, none⟩)) (hb : Blk w b T c) (hn : c.length = n) (hv : c.toArray = v)
    (hK : wpList P ops Q rest (a.put o.dst (.agg v)) w) : wpList P ops Q (o :: rest) a w := wpList_loadA hg hop ha hs (blk_load hb hn hv) hx hK
theorem evC_len (x : Ev) : (evC x).length = 20 := rfl
theorem fill_size0 (l : List (Value × Nat)) (a : Array Value) : (List.foldl (fun cs x => cs.setIfInBounds x.snd x.fst) a l).size = a.size := by
  induction l generalizing a with
  | nil => rfl
  | cons p l ih => rw [List.foldl_cons, ih]; simp
attribute [local go_sem] evC_len fill_size0
theorem same_self (ρ : En → List Rr) (e : En) : sameB ρ e e = true := by unfold sameB; simp
theorem z_ne : ¬ zeroE.q = e1.q := fun h => by have := congrArg Qn.ty h; simp [zeroE, e1, q1] at this
theorem right_x (ρ : En → List Rr) : okX ρ 1 2 st0 x1 = false := by
  have h : lookE (st0 x1.sh).L x1.de.q x1.now = zeroE := rfl
  have hs : sameB ρ zeroE x1.told = false := by unfold sameB; rw [decide_eq_false (show ¬ zeroE.q = x1.told.q from z_ne)]; rfl
  have hr : rightB ρ (st0 x1.sh) 2 x1 = false := by
    show lookOkB ρ (st0 x1.sh) x1 = false
    unfold lookOkB; rw [h, hs]; rfl
  unfold okX; rw [hr]; simp
theorem right_y (ρ : En → List Rr) : okX ρ 1 2 st0 y1 = true := by
  have hb : bareB ρ y1 = true := by unfold bareB; rw [show y1.told = zeroE from rfl, same_self]; rfl
  have hr : insOkB ρ (st0 y1.sh) 2 y1 = true := by unfold insOkB; rw [hb]; decide
  show (stIn 1 y1 && insOkB ρ (st0 y1.sh) 2 y1) = true
  rw [hr]; decide
theorem right_yx (ρ : En → List Rr) : okX ρ 1 2 (stX ρ 1 2 st0 y1) x1 = true := by
  have hb : bareB ρ y1 = true := by unfold bareB; rw [show y1.told = zeroE from rfl, same_self]; rfl
  have hi : insOkB ρ (st0 y1.sh) 2 y1 = true := by unfold insOkB; rw [hb]; decide
  have hs : stX ρ 1 2 st0 y1 x1.sh = ⟨[e1], [(q1, 9)]⟩ := by
    show insS ρ (st0 y1.sh) 2 y1 = _
    rw [(ins_yes hi).2]
    rfl
  have hl : lookE [e1] x1.de.q x1.now = e1 := rfl
  have hr : lookOkB ρ ⟨[e1], [(q1, 9)]⟩ x1 = true := by
    unfold lookOkB
    rw [hl, show x1.told = e1 from rfl, same_self]
    decide
  show (stIn 1 x1 && lookOkB ρ (stX ρ 1 2 st0 y1 x1.sh) x1) = true
  rw [hs, hr]; decide
theorem wrong_x (ρ : En → List Rr) : wrongL ρ 1 2 st0 0 [x1] = [0] := by
  rw [wrongL, right_x]; rfl
theorem wrong_yx (ρ : En → List Rr) : wrongL ρ 1 2 st0 0 [y1, x1] = [] := by
  rw [wrongL, right_y, wrongL, right_yx]; rfl
theorem wrong_xy (ρ : En → List Rr) : (wrongL ρ 1 2 st0 0 [x1, y1]).isEmpty = false := by
  rw [wrongL, right_x]; rfl
set_option maxRecDepth 100000 in
set_option maxHeartbeats 8000000 in
theorem shown_calls (w : World) : Calls Try.prog 5 #[] w fun r w' => r = .returned (.bool true) ∧ Fr [] w w' := by
  go_enter Try.func5, Try.ntmps5
  go_upto_region 2 with (refine wpList_storeNew rfl rfl rfl rfl (by kernel_rfl) rfl rfl ?_)
  refine wp_name ?_; intro w1 hw1
  have hf1 := alloc_of hw1
  have hb1 : Blk w1 w.heap.size 32 e1.c := blk_of hw1
  clear hw1
  obtain ⟨be, hbe⟩ : ∃ p, w.heap.size = p := ⟨_, rfl⟩
  rw [hbe] at hb1 ⊢
  have HF1 := Hd.mk hf1
  have HW := Hd.mk hbe
  have HB1 := Hd.mk hb1
  have d0 : w1.cell? ⟨be, 0, none⟩ = some (.string ⟨#[1, 97, 0]⟩) := hb1.cell (i := 0) rfl
  have d1 : w1.cell? ⟨be, 1, none⟩ = some (.int .u16 1) := hb1.cell (i := 1) rfl
  have d2 : w1.cell? ⟨be, 2, none⟩ = some (.int .u16 1) := hb1.cell (i := 2) rfl
  have d3 : w1.cell? ⟨be, 3, none⟩ = some (.slice none 0 0) := hb1.cell (i := 3) rfl
  have d4 : w1.cell? ⟨be, 4, none⟩ = some (.int .i64 0) := hb1.cell (i := 4) rfl
  have d5 : w1.cell? ⟨be, 5, none⟩ = some (.int .i64 3) := hb1.cell (i := 5) rfl
  have d6 : w1.cell? ⟨be, 6, none⟩ = some (.int .u64 9) := hb1.cell (i := 6) rfl
  clear hb1 hf1 hbe
  go_upto_region 3 with (refine wpList_storeNew (c' := (evC x1).toArray) rfl rfl rfl rfl (by kernel_rfl) rfl (evC_all x1) ?_)
  refine wp_name ?_; intro w2 hw2
  have hf2 := alloc_of hw2
  have hb2 : Blk w2 w1.heap.size 38 (evC x1) := blk_of hw2
  clear hw2 d0 d1 d2 d3 d4 d5 d6
  obtain ⟨bx, hbx⟩ : ∃ p, w1.heap.size = p := ⟨_, rfl⟩
  rw [hbx] at hb2 ⊢
  have HF2 := Hd.mk (HF1.out.trans hf2)
  have HB2 := Hd.mk hb2
  have HBE2 := Hd.mk (HB1.out.fr hf2 (by simp))
  have d0 : w2.cell? ⟨be, 0, none⟩ = some (.string ⟨#[1, 97, 0]⟩) := HBE2.out.cell (i := 0) rfl
  have d1 : w2.cell? ⟨be, 1, none⟩ = some (.int .u16 1) := HBE2.out.cell (i := 1) rfl
  have d2 : w2.cell? ⟨be, 2, none⟩ = some (.int .u16 1) := HBE2.out.cell (i := 2) rfl
  have d3 : w2.cell? ⟨be, 3, none⟩ = some (.slice none 0 0) := HBE2.out.cell (i := 3) rfl
  have d4 : w2.cell? ⟨be, 4, none⟩ = some (.int .i64 0) := HBE2.out.cell (i := 4) rfl
  have d5 : w2.cell? ⟨be, 5, none⟩ = some (.int .i64 3) := HBE2.out.cell (i := 5) rfl
  have d6 : w2.cell? ⟨be, 6, none⟩ = some (.int .u64 9) := HBE2.out.cell (i := 6) rfl
  clear hb2 hf2 hbx
  go_upto_region 4 with (refine wpList_storeNew (c' := (evC y1).toArray) rfl rfl rfl rfl (by kernel_rfl) rfl (evC_all y1) ?_)
  refine wp_name ?_; intro w3 hw3
  have hf3 := alloc_of hw3
  have hb3 : Blk w3 w2.heap.size 38 (evC y1) := blk_of hw3
  clear hw3 d0 d1 d2 d3 d4 d5 d6
  obtain ⟨bY, hbY⟩ : ∃ p, w2.heap.size = p := ⟨_, rfl⟩
  rw [hbY] at hb3 ⊢
  have HF3 := Hd.mk (HF2.out.trans hf3)
  have HX3 := Hd.mk (HB2.out.fr hf3 (by simp))
  have HY3 := Hd.mk hb3
  clear hb3 hf3 hbY
  go_wp2_with (refine wpList_loadA rfl rfl (Try.isAgg38 _) (Try.sizeOf38 _) (blk_load HX3.out (n := 20) rfl rfl) rfl ?_)
  refine name_calls ?_; intro w4 hw4
  have hb4 : Blk w4 w3.heap.size 38 (evC x1) := blk_of (by rw [hw4]; rfl)
  have hf4 : Fr [] w3 w4 := by rw [hw4]; exact (Fr.refl [] w3).alloc _
  clear hw4
  refine (wrong_calls (Fr.refl [] _) 1 2 (by omega) (xs := [x1]) (by simp) (sl1 hb4) (fun x hx => by simp at hx; subst hx; exact x1_ok w4)).mono ?_
  rintro r w5 ⟨v, rfl, hrow, hf5⟩
  rw [wrong_x] at hrow
  obtain ⟨A, c, rfl, hs5, -⟩ := cI_own (xs := [0]) hrow (by simp)
  have HS5 := Hd.mk hs5
  have HF5 := Hd.mk ((HF3.out.trans hf4).trans hf5)
  have HX5 := Hd.mk (HX3.out.fr (hf4.trans hf5) (by simp))
  have HY5 := Hd.mk (HY3.out.fr (hf4.trans hf5) (by simp))
  clear hb4 hf4 hrow hf5 hs5
  go_wp2_with fail
  refine name_calls ?_; intro w6 hw6
  have hb6 : Blk w6 w5.heap.size 3 (cI 0) := blk_of hw6
  have hf6 := alloc_of hw6
  clear hw6
  refine (ints_calls (xs := [0]) (ys := [0]) (HS5.out.fr hf6) (cI_one hb6) (by simp)).mono ?_
  rintro r w7 ⟨rfl, hf7⟩
  rw [show decide (([0] : List Int) = [0]) = true by decide]
  have HF7 := Hd.mk (HF5.out.trans (hf6.trans hf7))
  have HX7 := Hd.mk (HX5.out.fr (hf6.trans hf7) (by simp))
  have HY7 := Hd.mk (HY5.out.fr (hf6.trans hf7) (by simp))
  clear hb6 hf6 hf7
  go_wp2_with (refine wpList_loadB rfl rfl (Try.isAgg38 _) (Try.sizeOf38 _) rfl (by first | exact HX7.out | exact HY7.out) (by rfl) (by rfl) ?_)
  refine name_calls ?_; intro w8 hw8
  have hb8 : Blk w8 w7.heap.size 38 (evC y1 ++ evC x1) := blk_of (by rw [hw8]; rfl)
  have hf8 : Fr [] w7 w8 := by rw [hw8]; exact (Fr.refl [] w7).alloc _
  clear hw8
  refine (rightA_calls (Fr.refl [] _) 1 2 (by omega) (xs := [y1, x1]) (by simp) (sl2 hb8) (fun x hx => by simp at hx; rcases hx with rfl | rfl; exact y1_ok w8; exact x1_ok w8)).mono ?_
  rintro r w9 ⟨rfl, hf9⟩
  rw [wrong_yx]
  have HF9 := Hd.mk (HF7.out.trans (hf8.trans hf9))
  have HX9 := Hd.mk (HX7.out.fr (hf8.trans hf9) (by simp))
  have HY9 := Hd.mk (HY7.out.fr (hf8.trans hf9) (by simp))
  clear hb8 hf8 hf9
  rw [show ([] : List Int).isEmpty = true from rfl]
  go_wp2_with (refine wpList_loadB rfl rfl (Try.isAgg38 _) (Try.sizeOf38 _) rfl (by first | exact HX9.out | exact HY9.out) (by rfl) (by rfl) ?_)
  refine name_calls ?_; intro wa hwa
  have hba : Blk wa w9.heap.size 38 (evC x1 ++ evC y1) := blk_of (by rw [hwa]; rfl)
  have hfa : Fr [] w9 wa := by rw [hwa]; exact (Fr.refl [] w9).alloc _
  clear hwa
  refine (rightA_calls (Fr.refl [] _) 1 2 (by omega) (xs := [x1, y1]) (by simp) (sl2 hba) (fun x hx => by simp at hx; rcases hx with rfl | rfl; exact x1_ok wa; exact y1_ok wa)).mono ?_
  rintro r wb ⟨rfl, hfb⟩
  rw [wrong_xy]
  have HFB := Hd.mk (HF9.out.trans (hfa.trans hfb))
  clear hba hfa hfb
  go_wp2
  go_ret
  exact ⟨rfl, HFB.out⟩
end Go.Proofs.Ytbmejolmbfmdiaa
