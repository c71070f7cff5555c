import Derived.Test.YtbmejolmbfmdiaaH14
import Derived.Shelf.RegionOpen
namespace Go.Proofs.Ytbmejolmbfmdiaa
open Go Go.RowKit Go.Lib Go.Proofs.MapL
attribute [local go_sem] Oper.semAt_some

set_option maxRecDepth 100000 in
set_option maxHeartbeats 8000000 in
theorem wrongs_calls (sh room : Int) (v : Value) (w : World) (hv : ∃ A n c, v = .slice A n c) : Calls Try.prog 10 #[.int .i64 sh, .int .i64 room, v] w fun r w' => r = .returned (.func (.func 11) #[] #[.pointer (some ⟨w.heap.size + 2, 0, none⟩), .pointer (some ⟨w.heap.size + 1, 0, none⟩), .pointer (some ⟨w.heap.size, 0, none⟩)]) ∧
    Blk w' (w.heap.size + 2) 24 [v] ∧ Blk w' (w.heap.size + 1) 3 [.int .i64 room] ∧ Blk w' w.heap.size 3 [.int .i64 sh] ∧ Fr [] w w' := by
  obtain ⟨A, n, c, rfl⟩ := hv
  have h1 := Blk.new w 3 [.int .i64 sh]
  have h2 := Blk.new (w.alloc (.cells #[.int .i64 sh] 3)) 3 [.int .i64 room]
  have h3 := Blk.new ((w.alloc (.cells #[.int .i64 sh] 3)).alloc (.cells #[.int .i64 room] 3)) 24 [.slice A n c]
  simp only [World.size_alloc] at h2 h3
  have HALL := Hd.mk (And.intro h3 (And.intro ((h2.alloc (.cells #[.slice A n c] 24))) (And.intro ((h1.alloc (.cells #[.int .i64 room] 3)).alloc (.cells #[.slice A n c] 24)) ((((Fr.refl [] w).alloc (.cells #[.int .i64 sh] 3)).alloc (.cells #[.int .i64 room] 3)).alloc (.cells #[.slice A n c] 24)))))
  clear h1 h2 h3
  go_enter Try.func10, Try.ntmps10
  go_wp2
  go_ret
  exact ⟨by simp, HALL.out.1, HALL.out.2.1, HALL.out.2.2.1, HALL.out.2.2.2⟩
theorem elI3 : Elem Try.prog 25 3 (.int .i64 0) 1 8 := ⟨Try.underlying25, by kernel_rfl, rfl, by omega⟩
/-- What the body of Wrong has: the list, in a box. -/
def WrI (base bl : Nat) (pre : List Int) (B : List Nat) (W : World) : Prop := ∃ v, B = bl :: v.ownBlock.toList ∧ Blk W bl 25 [v] ∧ W.ownsRow base 3 1 v pre.length (pre.map (Value.int .i64))
theorem wrI_stays (base bl : Nat) : Stays (WrI base bl) := by
  refine ⟨?_, ?_⟩
  · rintro pre B W W' S ⟨v, rfl, hb, hr⟩ hf hS
    exact ⟨v, rfl, hb.fr hf (hS _ (by simp)), own_fr hr hf (fun k hk => hS k (by simp [hk]))⟩
  · rintro pre B W ⟨v, rfl, hb, hr⟩ b hbm
    rcases List.mem_cons.1 hbm with rfl | hbm
    · exact hb.lt
    · exact (hr.lt b (by simpa using hbm)).2
theorem no_stays {α : Type} : Stays (fun (_ : List α) (_ : List Nat) (_ : World) => False) := ⟨fun h => h.elim, fun h => h.elim⟩
set_option maxRecDepth 100000 in
set_option maxHeartbeats 8000000 in
theorem wrong_calls {wE w : World} (hE : Fr [] wE w) (sh room : Int) (hroom : 1 ≤ room) {xs : List Ev} (hlen : xs.length ≤ 1000) {A : Option Addr} {c : Nat} (hs : SlIs evC 20 w A xs.length xs) (hx : ∀ x ∈ xs, EvOK wE x ∧ shI x) :
    Calls Try.prog 7 #[.int .i64 sh, .int .i64 room, .slice A xs.length c] w fun r w' => ∃ v, r = .returned v ∧ w'.ownsRow w.heap.size 3 1 v (wrongL (rho wE) sh room st0 0 xs).length ((wrongL (rho wE) sh room st0 0 xs).map (Value.int .i64)) ∧ Fr [] w w' := by
  have HS := Hd.mk hs
  have HX := Hd.mk hx
  have HLL : Hd ((wrongL (rho wE) sh room st0 0 xs).length ≤ 1000) := Hd.mk (Nat.le_trans (wrongL_len _ _ _ _ _ _) hlen)
  have HLE := Hd.mk hlen
  have HRM := Hd.mk hroom
  have HE0 := Hd.mk hE
  clear hE hs hx hlen hroom
  refine (callsIn_wide (n := 3)).1 ?_
  refine callsIn_of_wp_marks Try.func7 rfl trivial ?_ rfl
  simp only [Try.ntmps7, List.size_toArray, List.length_cons, List.length_nil, Nat.reduceAdd, Nat.reduceSub, Array.replicate_succ, Array.replicate_zero, List.push_toArray, List.append_toArray, List.nil_append, List.cons_append]
  have HB := Hd.mk (Blk.new w 25 [.slice none 0 0])
  have HF0 := Hd.mk ((Fr.refl [] w).alloc (.cells #[.slice none 0 0] 25))
  gi_wp2_with (refine ⟨trivial, ?_⟩; gi_at_call 10; refine (callsIn_wide.2 (wrongs_calls sh room (.slice A xs.length c) _ ⟨_, _, _, rfl⟩)).mono ?_; rintro e w' ⟨rfl, hb1, hb2, hb3, hf⟩)
  simp only [World.size_alloc] at hb1 hb2 hb3 ⊢
  have hB := HB.out.fr hf (by simp)
  have hF := HF0.out.trans hf
  obtain ⟨bl, hbl⟩ : ∃ p, w.heap.size = p := ⟨_, rfl⟩
  rw [hbl] at hb1 hb2 hb3 hB ⊢
  obtain ⟨i0, hi, hz0, hz1, hz2⟩ := info_parts elI3.info
  refine wpIn_rangeFunc_X rfl (by omega) (gf := 11) (lb := #[.pointer (some ⟨bl + 1 + 2, 0, none⟩), .pointer (some ⟨bl + 1 + 1, 0, none⟩), .pointer (some ⟨bl + 1, 0, none⟩)]) (by simp [Act.eval]) trivial (enters_of Try.func11 (by kernel_rfl) rfl)
    (wrongs_gives HE0.out (3 - 1) (by omega) sh room HRM.out HLE.out HS.out HX.out hF hb1 hb2 hb3) (fun _ => rfl)
    (WrI bl bl) (fun _ _ _ => False) (wrI_stays _ _) no_stays (B0 := [bl]) ⟨.slice none 0 0, rfl, hB, World.ownsRow_nil _ _ _ _⟩
    (fun b hb => by simp at hb; subst hb; exact ⟨by omega, by omega, by omega, by omega⟩) (fun b hb => by have h1 := hb1.lt; have h2 := hF.size; exact ⟨by omega, by omega, by omega, by omega⟩)
    (fun i => { tmps := #[.int .i64 sh, .int .i64 room, .slice A xs.length c, undef, undef, undef, .slice none 0 0, .pointer (some ⟨bl, 0, none⟩), .int .i64 i, .int .i64 sh, .int .i64 room, .slice A xs.length c, .func (.func 11) #[] #[.pointer (some ⟨bl + 1 + 2, 0, none⟩), .pointer (some ⟨bl + 1 + 1, 0, none⟩), .pointer (some ⟨bl + 1, 0, none⟩)], .int .i64 i, undef, undef, undef, undef, undef], defers := [] }) ?assign ?body ?done ?stop
  case assign =>
    intro l x W K hK
    dsimp only [encI]
    gi_wp2
    exact hK
  case body =>
    rintro l pre x B W ⟨v, rfl, hb, hr⟩ hpre
    have hpl := hpre.length_le
    rw [List.length_append, List.length_singleton] at hpl
    have hc := hb.cell (i := 0) rfl
    have hLL := HLL.out
    gi_wp2_with (refine wpListIn_app1s elI3 rfl _ _ rfl hr rfl [.int .i64 x] rfl rfl (by simp [Value.oneCell']) (by omega) (by omega) (by have := hb.lt; omega) ?_; intro g' cap' w2 hown' hfr hg1 hg2 hg3; have hb2 := hb.fr hfr (fun e => own_ne hr hb (by decide) _ (by simpa using e) rfl); have hc2 := hb2.cell (i := 0) rfl; have hf2 := hb2.free 0)
    have hne : g' ≠ bl := own_ne hown' hb2 (by decide) _ rfl
    have hset := hb2.set 0 (.slice (some ⟨g', 0, none⟩) (pre.length + 1) cap')
    refine ⟨[bl, g'], fun b hb' => ?_, (hfr.mono (fun y hy => List.mem_cons_of_mem _ hy)).trans (fr_set.mono (by simp)), .slice (some ⟨g', 0, none⟩) (pre.length + 1) cap', rfl, hset, ?_⟩
    · rcases List.mem_cons.1 hb' with rfl | hb'
      · exact .inl (by simp)
      · simp at hb'; subst hb'
        rcases hg3 with h | h
        · exact .inl (by simp [h])
        · exact .inr h
    · have := own_fr hown' (fr_set (b := bl) (i := 0) (v := .slice (some ⟨g', 0, none⟩) (pre.length + 1) cap')) (fun k hk => by
        have e : g' = k := by simpa [Value.ownBlock] using hk
        subst e; simpa using hne)
      simpa using this
  case done =>
    rintro D B W hD hf2 ⟨v, rfl, hb, hr⟩ hDB hK
    have hc := hb.cell (i := 0) rfl
    gi_wp2
    refine ⟨by simp, .inl ⟨_, _, rfl, run_takeDeferred hK, ?_⟩⟩
    exact ⟨_, results_tmp rfl _ _ _, v, rfl, by rw [hbl]; exact own_fr hr ((Fr.refl [D] W).putObj _ (.inl (by simp))) (fun k hk e => hDB (by simp at e; subst e; simp [hk])), (hF.weak (hf2.putObj (l := D) (.deferred none) (.inr (by omega))) (fun y hy => .inr (by simp at hy; omega)))⟩
  case stop =>
    rintro D pre B W _ _ _ _ h
    exact h.elim
theorem results_cell1 {P : Program} {fn : Func} {p : Tmp} {ty : TypeId} {tmps : Array Value} {w : World} {ad : Addr} {v : Value} (h : fn.results = #[.cell p ty]) (ht : tmps.getD p undef = .pointer (some ad)) (ha : (isAgg ty).run P w = .ok false w) (hc : w.cell? ad = some v) :
    (results fn tmps).run P w = .ok v w := by
  rw [Array.getD_eq_getD_getElem?] at ht
  simp [results, h, ht, go_sem, ha, hc]
/-- What the body of Right has: its result. -/
def RiI (bl : Nat) (pre : List Int) (B : List Nat) (W : World) : Prop := pre = [] ∧ B = [bl] ∧ Blk W bl 4 [.bool false]
def RiX (bl : Nat) (_ : List Int) (B : List Nat) (W : World) : Prop := B = [bl] ∧ Blk W bl 4 [.bool false]
theorem riI_stays (bl : Nat) : Stays (RiI bl) := by
  refine ⟨?_, ?_⟩
  · rintro pre B W W' S ⟨h1, rfl, hb⟩ hf hS
    exact ⟨h1, rfl, hb.fr hf (hS _ (by simp))⟩
  · rintro pre B W ⟨h1, rfl, hb⟩ b hbm
    simp at hbm; subst hbm; exact hb.lt
theorem riX_stays (bl : Nat) : Stays (RiX bl) := by
  refine ⟨?_, ?_⟩
  · rintro pre B W W' S ⟨rfl, hb⟩ hf hS
    exact ⟨rfl, hb.fr hf (hS _ (by simp))⟩
  · rintro pre B W ⟨rfl, hb⟩ b hbm
    simp at hbm; subst hbm; exact hb.lt
set_option maxRecDepth 100000 in
set_option maxHeartbeats 8000000 in
theorem rightA_calls {wE w : World} (hE : Fr [] wE w) (sh room : Int) (hroom : 1 ≤ room) {xs : List Ev} (hlen : xs.length ≤ 1000) {A : Option Addr} {c : Nat} (hs : SlIs evC 20 w A xs.length xs) (hx : ∀ x ∈ xs, EvOK wE x ∧ shI x) :
    Calls Try.prog 9 #[.int .i64 sh, .int .i64 room, .slice A xs.length c] w fun r w' => r = .returned (.bool (wrongL (rho wE) sh room st0 0 xs).isEmpty) ∧ Fr [] w w' := by
  have HS := Hd.mk hs
  have HX := Hd.mk hx
  have HLE := Hd.mk hlen
  have HRM := Hd.mk hroom
  have HE0 := Hd.mk hE
  clear hE hs hx hlen hroom
  refine (callsIn_wide (n := 3)).1 ?_
  refine callsIn_of_wp_marks Try.func9 rfl trivial ?_ rfl
  simp only [Try.ntmps9, List.size_toArray, List.length_cons, List.length_nil, Nat.reduceAdd, Nat.reduceSub, Array.replicate_succ, Array.replicate_zero, List.push_toArray, List.append_toArray, List.nil_append, List.cons_append]
  have HB := Hd.mk (Blk.new w 4 [.bool false])
  have HF0 := Hd.mk ((Fr.refl [] w).alloc (.cells #[.bool false] 4))
  gi_wp2_with (refine ⟨trivial, ?_⟩; gi_at_call 10; refine (callsIn_wide.2 (wrongs_calls sh room (.slice A xs.length c) _ ⟨_, _, _, rfl⟩)).mono ?_; rintro e w' ⟨rfl, hb1, hb2, hb3, hf⟩)
  simp only [World.size_alloc] at hb1 hb2 hb3 ⊢
  have hB := HB.out.fr hf (by simp)
  have hF := HF0.out.trans hf
  obtain ⟨bl, hbl⟩ : ∃ p, w.heap.size = p := ⟨_, rfl⟩
  rw [hbl] at hb1 hb2 hb3 hB ⊢
  refine wpIn_rangeFunc_X rfl (by omega) (gf := 11) (lb := #[.pointer (some ⟨bl + 1 + 2, 0, none⟩), .pointer (some ⟨bl + 1 + 1, 0, none⟩), .pointer (some ⟨bl + 1, 0, none⟩)]) (by simp [Act.eval]) trivial (enters_of Try.func11 (by kernel_rfl) rfl)
    (wrongs_gives HE0.out (3 - 1) (by omega) sh room HRM.out HLE.out HS.out HX.out hF hb1 hb2 hb3) (fun _ => rfl)
    (RiI bl) (RiX bl) (riI_stays _) (riX_stays _) (B0 := [bl]) ⟨rfl, rfl, hB⟩
    (fun b hb => by simp at hb; subst hb; exact ⟨by omega, by omega, by omega, by omega⟩) (fun b hb => by have h1 := hb1.lt; have h2 := hF.size; exact ⟨by omega, by omega, by omega, by omega⟩)
    (fun i => { tmps := #[.int .i64 sh, .int .i64 room, .slice A xs.length c, undef, undef, undef, .pointer (some ⟨bl, 0, none⟩), .int .i64 sh, .int .i64 room, .slice A xs.length c, .func (.func 11) #[] #[.pointer (some ⟨bl + 1 + 2, 0, none⟩), .pointer (some ⟨bl + 1 + 1, 0, none⟩), .pointer (some ⟨bl + 1, 0, none⟩)], .int .i64 i], defers := [] }) ?assign ?body ?done ?stop
  case assign =>
    intro l x W K hK
    dsimp only [encI]
    gi_wp2
    simpa using hK
  case body =>
    rintro l pre x B W ⟨rfl, rfl, hb⟩ hpre
    have hf2 := hb.free 0
    have hc := hb.cell (i := 0) rfl
    have hset := hb.set 0 (.bool false)
    gi_wp2
    exact ⟨[bl], fun b hb' => .inl hb', fr_set, rfl, hset⟩
  case done =>
    rintro D B W hD hf2 ⟨hnil, rfl, hb⟩ hDB hK
    have hc := hb.cell (i := 0) rfl
    have hfr := hb.free 0
    have hE : (wrongL (rho wE) sh room st0 0 xs).isEmpty = true := by rw [hnil]; rfl
    have hset := hb.set 0 (.bool true)
    have hK2 : (W.setCell ⟨bl, 0, none⟩ (.bool true)).heap[D]? = some (.deferred (some [])) := (Below.heap_setCell _ _ _ _ (fun e => hDB (by simp at e; simp [e]))).trans hK
    gi_wp2
    refine ⟨by simp, .inl ⟨_, _, rfl, run_takeDeferred hK2, ?_⟩⟩
    have hset2 := hset.fr ((Fr.refl [D] _).putObj (l := D) (.deferred none) (.inl (by simp))) (fun e => hDB (by simp at e; simp [e]))
    exact ⟨_, results_cell1 rfl rfl (Try.isAgg4 _) (hset2.cell (i := 0) rfl), by rw [hE], (hF.weak ((hf2.trans (fr_set (b := bl) (i := 0) (v := .bool true))).putObj (l := D) (.deferred none) (.inr (by omega))) (fun y hy => .inr (by simp at hy; omega)))⟩
  case stop =>
    rintro D pre B W hD hf2 hpre hne ⟨rfl, hb⟩ hDB hK
    have hc := hb.cell (i := 0) rfl
    have hE : (wrongL (rho wE) sh room st0 0 xs).isEmpty = false := by
      cases hw : wrongL (rho wE) sh room st0 0 xs with
      | nil => rw [hw] at hpre; exact absurd (List.prefix_nil.1 hpre) hne
      | cons _ _ => rfl
    gi_wp2
    refine ⟨by simp, .inl ⟨_, _, rfl, run_takeDeferred hK, ?_⟩⟩
    have hset2 := hb.fr ((Fr.refl [D] _).putObj (l := D) (.deferred none) (.inl (by simp))) (fun e => hDB (by simp at e; simp [e]))
    exact ⟨_, results_cell1 rfl rfl (Try.isAgg4 _) (hset2.cell (i := 0) rfl), by rw [hE], (hF.weak (hf2.putObj (l := D) (.deferred none) (.inr (by omega))) (fun y hy => .inr (by simp at hy; omega)))⟩
end Go.Proofs.Ytbmejolmbfmdiaa
