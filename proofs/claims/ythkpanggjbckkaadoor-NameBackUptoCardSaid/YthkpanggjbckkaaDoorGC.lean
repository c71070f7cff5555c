import Derived.Test.YthkpanggjbckkaaDoorGB
namespace Go.Proofs.YthkpanggjbckkaaDoor.PN
open Go.RowKit Go.Shelf Go.Proofs.YthkpanggjbckkaaDoorW.PrintWords Go.Proofs.YthkpanggjbckkaaDoorW.PrintLast Go.Proofs.YthkpanggjbckkaaDoorW.PrintMore
attribute [local go_sem] Oper.semAt_some

def lastOf (s : ByteArray) : List (ByteArray × ByteArray) → ByteArray
  | [] => s
  | x :: l => lastOf x.2 l
theorem lastOf_snoc (s : ByteArray) (l : List (ByteArray × ByteArray)) (x : ByteArray × ByteArray) : lastOf s (l ++ [x]) = x.2 := by
  induction l generalizing s with
  | nil => rfl
  | cons y l ih => exact ih y.2
/-- A name's labels: what is behind the last must be the root. -/
def labelsF (s : ByteArray) : List ByteArray × Int :=
  if (lastOf s (eachOf s)).toList = [0] then (if s.size ≤ 255 then ((eachOf s).map (·.1), 0) else ([], 3)) else ([], 2)
def name_Labels.f (a0 : ByteArray) : Option (List ByteArray × Int) :=
  if a0.size ≤ 4398046511104 then some (labelsF a0) else none

theorem boxed_ownF {β : Type} (n B t : Nat) (f : β → Value) : OwnFrom n (fun (s : β) W => Boxed W B t (f s)) := fun s W W' row h hg hr =>
  h.kept hg (fun e => by
    obtain ⟨_, o, ho, hc⟩ := hr B e.symm
    rw [show W.heap[B]? = _ from h] at ho
    cases ho; cases hc)
theorem size_ownF {β : Type} (n m : Nat) : OwnFrom n (fun (_ : β) (W : World) => m ≤ W.heap.size) := fun _ _ _ _ h hg _ => Nat.le_trans h hg.size
theorem boxed_far {W : World} {B t b i : Nat} {v u : Value} (h : Boxed W B t v) (hb : B ≠ b) : Boxed (W.setCell ⟨b, i, none⟩ u) B t v := by
  unfold Boxed at *
  rw [Below.heap_setCell _ _ _ _ hb]; exact h
theorem row_block {W : World} {base E size n g : Nat} {v : Value} {xs : List Value} (h : W.ownsRow base E size v n xs) (hg : v.ownBlock = some g) : base ≤ g ∧ ∃ c f, W.heap[g]? = some (.cells c E f) := by
  rcases h.2 with ⟨rfl, _⟩ | ⟨g', cap, cur, rfl, hb, hh, _⟩
  · simp [Value.ownBlock] at hg
  · obtain rfl : g' = g := by simpa [Value.ownBlock] using hg
    exact ⟨hb, _, _, hh⟩
theorem row_far {W : World} {base E size n b : Nat} {v u : Value} {xs : List Value} (h : W.ownsRow base E size v n xs) (hb : b < base) : (W.setCell ⟨b, 0, none⟩ u).ownsRow base E size v n xs := by
  refine h.kept (grownBy_setCell' W b u) (.inr fun e => ?_)
  have := (row_block h e).1
  omega
theorem row_ne {W : World} {base E size n b : Nat} {v : Value} {xs : List Value} (h : W.ownsRow base E size v n xs) (hb : b < base) : some b ≠ v.ownBlock := fun e => by
  have := (row_block h e.symm).1
  omega
theorem row_base {W : World} {base base' E size n : Nat} {v : Value} {xs : List Value} (h : W.ownsRow base E size v n xs) (hb : base' ≤ base) : W.ownsRow base' E size v n xs := by
  refine ⟨h.1, ?_⟩
  rcases h.2 with hn | ⟨g, cap, cur, hv, hbg, rest⟩
  · exact .inl hn
  · exact .inr ⟨g, cap, cur, hv, Nat.le_trans hb hbg, rest⟩

set_option maxRecDepth 100000 in
set_option maxHeartbeats 4000000 in
theorem name_Labels.calls (a0 : ByteArray) (r1 : List ByteArray) (r2 : Int) (w : World) (h : name_Labels.f a0 = some (r1, r2)) :
    Calls Tryd.prog 14 #[.string a0] w fun e w' => ∃ v0_ : Value, e = .returned (.tuple #[v0_, .int .i64 r2]) ∧ Kd.R Kd.string 9 w' w.heap.size (fun _ => True) v0_ r1 ∧ Below w.heap.size w w' := by
  obtain ⟨s, rfl⟩ : ∃ s, s = a0 := ⟨_, rfl⟩
  have hs : s.size ≤ 4398046511104 := by
    unfold name_Labels.f at h
    split at h
    · assumption
    · cases h
  have hF : labelsF s = (r1, r2) := by
    unfold name_Labels.f at h
    rw [if_pos hs] at h
    exact Option.some.inj h
  clear h
  refine (callsIn_wide (n := 3)).1 ?_
  obtain ⟨i0, hi, hz0, hz1, hz2⟩ := info_parts info9
  refine callsIn_of_wp_marks Tryd.func14 rfl trivial ?_ rfl
  simp only [Tryd.ntmps14, List.size_toArray, List.length_cons, List.length_nil, Nat.reduceAdd, Nat.reduceSub, Array.replicate_succ, Array.replicate_zero, List.push_toArray, List.append_toArray, List.nil_append, List.cons_append]
  have hFh := hid hF
  clear hF
  gi_wp2_with (refine ⟨trivial, ?_⟩; gi_at_call 31; refine (each_in (3 - 1) _ _).mono ?_; rintro e w' ⟨rfl, rfl⟩)
  obtain ⟨w1, hw1⟩ : ∃ w1, ((w.alloc (.cells #[.slice none 0 0] 25)).alloc (.cells #[.string s] 9)).alloc (.cells #[.string s] 9) = w1 := ⟨_, rfl⟩
  have hz : w1.heap.size = w.heap.size + 3 := by rw [← hw1]; simp
  have bL : Boxed w1 w.heap.size 25 (.slice none 0 0) := by rw [← hw1]; exact ((Boxed.new w 25 _).alloc _).alloc _
  have bR : Boxed w1 (w.heap.size + 1) 9 (.string s) := by
    rw [← hw1]
    have := (Boxed.new (w.alloc (.cells #[.slice none 0 0] 25)) 9 (.string s)).alloc (.cells #[.string s] 9)
    rwa [World.size_alloc] at this
  have bN : Boxed w1 (w.heap.size + 2) 9 (.string s) := by
    rw [← hw1]
    have := Boxed.new ((w.alloc (.cells #[.slice none 0 0] 25)).alloc (.cells #[.string s] 9)) 9 (.string s)
    rwa [World.size_alloc, World.size_alloc] at this
  have hB1 : Below w.heap.size w w1 := by
    rw [← hw1]; exact (((Below.refl _ w).alloc (Nat.le_refl _) _).alloc (by simp) _).alloc (by simp; omega) _
  have hl := eachOf_len s
  simp only [hw1]
  refine wpIn_rangeFunc_S (Bx := w.heap.size + 2) rfl (by omega) (gf := 42) (lb := #[.pointer (some ⟨w.heap.size + 2, 0, none⟩)]) (by simp [Act.eval]) trivial (enters_of Tryd.func42 (by kernel_rfl) rfl)
    (each_gives (3 - 1) (by omega) (w.heap.size + 2) s (by omega) w1 bN) (by omega) (fun _ => rfl)
    (fun pre W => (∃ v, Boxed W w.heap.size 25 v ∧ W.ownsRow w1.heap.size 9 1 v pre.length (pre.map fun x => Value.string x.1) ∧ True) ∧ Boxed W (w.heap.size + 1) 9 (.string (lastOf s pre)) ∧ w1.heap.size ≤ W.heap.size ∧ Below w.heap.size w W) ?hI ?hIs ?h0
    (fun x => { tmps := #[.string s, undef, .slice none 0 0, .int .i64 0, .pointer (some ⟨w.heap.size, 0, none⟩), .pointer (some ⟨w.heap.size + 1, 0, none⟩), .string x.1, .string x.2, .string s, .string s, .func (.func 42) #[] #[.pointer (some ⟨w.heap.size + 1 + 1, 0, none⟩)], .string x.1, .string x.2, undef, undef, undef, undef, undef, undef, undef, undef, undef, undef, undef, undef, undef], defers := [] }) ?assign ?body ?done
  case hI =>
    exact OwnFrom.and (Own.from (holdsRow_own w1.heap.size w.heap.size 25 9 1 (fun pre : List (ByteArray × ByteArray) => pre.length) (fun pre => pre.map fun x => Value.string x.1) (fun _ _ => True)) _)
      (OwnFrom.and (boxed_ownF _ _ _ fun pre => .string (lastOf s pre)) (OwnFrom.and (size_ownF _ _) (ownFrom_below (Nat.le_refl _) (by omega))))
  case hIs =>
    rintro pre W v ⟨⟨u, h1, h2, -⟩, h3, h4, h5⟩
    exact ⟨⟨u, boxed_far h1 (by omega), row_far h2 (by omega), trivial⟩, boxed_far h3 (by omega), by simpa using h4, h5.setCell (p := ⟨w.heap.size + 2, 0, none⟩) (by simp) _⟩
  case h0 => exact ⟨⟨_, bL, World.ownsRow_nil _ _ _ _, trivial⟩, bR, Nat.le_refl _, hB1⟩
  case assign =>
    intro l x W K hK
    dsimp only [encP]
    gi_wp2
    exact hK
  case body =>
    rintro l pre x W ⟨⟨v, hv, hrow, -⟩, hr, hsz, hB⟩ hlt
    have hlt := hlt.length_le
    rw [List.length_append, List.length_singleton] at hlt
    have hc := hv.cell
    have n1 := hid (row_ne hrow (b := w.heap.size) (by omega))
    have n2 := hid (row_ne hrow (b := w.heap.size + 1) (by omega))
    gi_wp2_with (gi_at_builtin; refine wpListIn_append_own _ rfl _ _ 25 rfl w1.heap.size 9 i0 (.string ⟨#[]⟩) 1 16 Tryd.underlying25 hi hz0 hz1 hz2 rfl (by decide) _ _ _ rfl (hrow.alloc _) ⟨W.heap.size, 0, none⟩ 1 1 [.string x.1] rfl rfl (cell_one_new _ _ _) (by simp [Value.oneCell']) (by unfold maxLen; omega) (by omega) (by simp; omega) ?_; intro v' w2 hown' hgrow _; obtain ⟨g', cap', rfl⟩ := ownsRow_succ hown'; have hv1 := (hv.alloc (.cells #[.string x.1] 9)).kept hgrow n1.out; have hr1 := (hr.alloc (.cells #[.string x.1] 9)).kept hgrow n2.out; have hc1 := hv1.cell; have hf1 := hv1.frozen; have hc2 := hr1.cell; have hf2 := hr1.frozen)
    have hk1 : KeepsOthers W w2 := (KeepsOthers.alloc W _).trans (KeepsOthers.of_grownBy hgrow fun j o ej hj => by
      obtain ⟨-, c, f, hh⟩ := row_block (hrow.alloc (.cells #[.string x.1] 9)) ej
      rw [hh] at hj; cases hj; rfl)
    have n3 := row_ne hrow (b := w.heap.size + 2) (by omega)
    have hb2 : Below w.heap.size w w2 := (hB.alloc hB.size _).grown hgrow (by simp; omega) (fun j ej => by have := (row_block hrow ej).1; omega)
    have hz2' : W.heap.size + 1 ≤ w2.heap.size := by have := hgrow.size; simpa using this
    refine ⟨((hk1.trans (KeepsOthers.setCell _ _ _)).trans (KeepsOthers.setCell _ _ _)).from _, ?_, ⟨_, boxed_far (hv1.set _) (by omega), row_far (row_far ?_ (by omega)) (by omega), trivial⟩, ?_, ?_, ?_⟩
    · rw [Below.heap_setCell _ _ _ _ (by simp), Below.heap_setCell _ _ _ _ (by simp), hgrow.block _ (by simp; omega) n3, Below.heap_alloc _ _ _ (by omega)]
    · simpa using hown'
    · rw [lastOf_snoc]
      exact (boxed_far hr1 (by omega)).set _
    · simp; omega
    · exact (hb2.setCell (p := ⟨w.heap.size, 0, none⟩) (Nat.le_refl _) _).setCell (p := ⟨w.heap.size + 1, 0, none⟩) (by simp) _
  case done =>
    rintro D ys W hD rfl ⟨⟨v, hv, hrow, -⟩, hr, hsz, hB⟩ hK
    have hc := hv.cell
    have hc' := hr.cell
    obtain ⟨last, hlast⟩ : ∃ last, lastOf s (eachOf s) = last := ⟨_, rfl⟩
    rw [hlast] at hc'
    have hlast := hid hlast
    have hR : Kd.string.R 9 (W.putObj D (.deferred none)) w.heap.size (fun _ => True) v ((eachOf s).map (·.1)) := by
      refine Kd.R_of_own ?_ (fun _ _ => trivial)
      have := row_base (ownsRow_putObj hrow (.deferred none) hK rfl) (show w.heap.size ≤ w1.heap.size by omega)
      simpa [encs, Function.comp_def] using this
    have hBD : Below w.heap.size w (W.putObj D (.deferred none)) := hB.trans (belowK_b (w := w) (Nat.le_refl _) W D _ _ (by omega) hK rfl rfl)
    by_cases e1 : last.toList = [0]
    · have d1 : (last.toList == [0]) = true := by simpa using e1
      have d1' : (last.toList != [0]) = false := by simpa using e1
      by_cases e2 : s.size ≤ 255
      · have d2 : decide ((255 : Int) < (s.size : Int)) = false := decide_eq_false (by omega)
        have hf := hFh.out
        unfold labelsF at hf
        rw [hlast.out, if_pos e1, if_pos e2] at hf
        simp only [Prod.mk.injEq] at hf
        obtain ⟨rfl, rfl⟩ := hf
        clear e1
        gi_wp2
        refine ⟨by simp, .inl ⟨_, _, rfl, run_takeDeferred hK, ?_⟩⟩
        exact ⟨_, results_tmp2 rfl _ _ _, v, rfl, hR, hBD⟩
      · have d2 : decide ((255 : Int) < (s.size : Int)) = true := decide_eq_true (by omega)
        have hf := hFh.out
        unfold labelsF at hf
        rw [hlast.out, if_pos e1, if_neg e2] at hf
        simp only [Prod.mk.injEq] at hf
        obtain ⟨rfl, rfl⟩ := hf
        clear e1
        gi_wp2
        refine ⟨by simp, .inl ⟨_, _, rfl, run_takeDeferred hK, ?_⟩⟩
        exact ⟨_, results_tmp2 rfl _ _ _, .slice none 0 0, rfl, Kd.R_nil _ _ _ _ _, hBD⟩
    · have d1 : (last.toList == [0]) = false := by simpa using e1
      have d1' : (last.toList != [0]) = true := by simpa using e1
      have hf := hFh.out
      unfold labelsF at hf
      rw [hlast.out, if_neg e1] at hf
      simp only [Prod.mk.injEq] at hf
      obtain ⟨rfl, rfl⟩ := hf
      clear e1
      gi_wp2
      refine ⟨by simp, .inl ⟨_, _, rfl, run_takeDeferred hK, ?_⟩⟩
      exact ⟨_, results_tmp2 rfl _ _ _, .slice none 0 0, rfl, Kd.R_nil _ _ _ _ _, hBD⟩
end Go.Proofs.YthkpanggjbckkaaDoor.PN
