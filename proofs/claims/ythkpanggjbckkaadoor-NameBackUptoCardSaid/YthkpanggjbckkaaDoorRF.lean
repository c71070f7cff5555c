import Derived.RangeFuncNested
import Derived.RangeFuncBound
import Derived.RangeFuncCalls
import Derived.RangeFuncLeaves
import Derived.Shelf.Abstract
import Derived.Shelf.RegionOpen
import Derived.WalkKit
import Derived.OwnWalkIn
import Derived.TacticsInMore
import Derived.LoopNIn
import Derived.LoopIn
namespace Go.Proofs.YthkpanggjbckkaaDoor
open Go Go.RowKit

/-- An iterator that keeps its place in the cell (Bx, 0): it gives all of xs, one after the other, to whatever body goes on and leaves that cell alone. -/
def GivesS {α : Type} (Bx : Nat) (F : Fence) (n : Nat) (P : Program) (g : Nat) (lb : Array Value) (encs : α → Array Value) (S Pr : List α → Prop) (w : World) : Prop :=
  ∀ (l : Nat) (J : List α → World → Prop) (W : World), Below w.heap.size w W → AbidesFrom W.heap.size J → (∀ pre W1 v, J pre W1 → J pre (W1.setCell ⟨Bx, 0, none⟩ v)) →
    (∀ pre x W1, J pre W1 → Pr (pre ++ [x]) → YieldAt F (n - 1) P l (encs x) W1 fun e W' => e = .returned (.bool true) ∧ J (pre ++ [x]) W' ∧ W'.heap[Bx]? = W1.heap[Bx]?) →
    J [] W →
    CallsIn F n P g (#[.func (.yield l) #[] #[]] ++ lb) W fun e W' => (∃ v, e = .returned v) ∧ ∃ xs, S xs ∧ J xs W'

/-- A round's end, where the body goes on. -/
def endsS {α : Type} (B Bx : Nat) (I : List α → World → Prop) (xs : List α) (W : World) : Exit → Act → World → Prop
  | .normal, _, W' => KeepsFrom B W W' ∧ W'.heap[Bx]? = W.heap[Bx]? ∧ I xs W'
  | _, _, _ => False

variable {F : Fence} {n : Nat} {P : Program}

/-- A loop over such an iterator whose body always goes on. -/
theorem wpIn_rangeFunc_S {α : Type} {Bx : Nat} {g : Operand} {ps : Array Tmp} {assign body : Code} {Q : Exit → Act → World → Prop} {a : Act} {w : World}
    (hro : F.round = none) (h1 : 1 ≤ n) {gf : Nat} {lb : Array Value} (hg : a.eval g = .func (.func gf) #[] lb) (hFg : F.fn gf) (eg : ∀ args w, (callFunc gf args).run P w = .ok (.enter gf args) w)
    {encs : α → Array Value} {S Pr : List α → Prop} (hseq : GivesS Bx F (n - 1) P gf lb encs S Pr w) (hBx : Bx < w.heap.size) (hps : ∀ x, (encs x).size = ps.size)
    (I : List α → World → Prop) (hI : OwnFrom w.heap.size I) (hIs : ∀ pre W v, I pre W → I pre (W.setCell ⟨Bx, 0, none⟩ v)) (h0 : I [] w) (a₁ : α → Act)
    (hassign : ∀ (l : Nat) (x : α) (W : World) (K : Act → World → Prop), K (a₁ x) W →
      assign.wpIn (F.inRound l) (n - 1 - 1) P (Exit.then K (fun _ _ _ => False)) { tmps := (ps.zip (encs x)).foldl (fun t (p, v) => t.setIfInBounds p v) a.tmps, defers := [] } W)
    (hbody : ∀ (l : Nat) (pre : List α) (x : α) (W : World), I pre W → Pr (pre ++ [x]) → body.wpIn (F.inRound l) (n - 1 - 1) P (endsS w.heap.size Bx I (pre ++ [x]) W) (a₁ x) W)
    (hdone : ∀ (D : Nat) (xs : List α) (W : World), w.heap.size ≤ D → S xs → I xs W → W.heap[D]? = some (.deferred (some [])) → Q .normal { a with defers := { target := .collected D, args := #[] } :: a.defers } W) :
    (Code.rangeFunc g ps assign body).wpIn F n P Q a w := by
  refine wpIn_rangeFunc fun fn hfn => ?_
  rw [hro]
  let rec_ : LoopState → Loop := fun st => { state := st, pending := none, fn, tmps := a.tmps, params := ps, assign, body, defers := w.heap.size }
  obtain ⟨r1, hr1⟩ : ∃ r1 : Loop, r1 = rec_ .ready := ⟨_, rfl⟩
  obtain ⟨r2, hr2⟩ : ∃ r2 : Loop, r2 = rec_ .busy := ⟨_, rfl⟩
  obtain ⟨W1, hW1⟩ : ∃ W1, (w.alloc (.deferred (some []))).alloc (.loop r1) = W1 := ⟨_, rfl⟩
  have hL1 : W1.heap[w.heap.size + 1]? = some (.loop r1) := by
    have := World.alloc_heap_new (w.alloc (.deferred (some []))) (.loop r1)
    rw [← hW1]; rwa [World.size_alloc] at this
  have hK1 : W1.heap[w.heap.size]? = some (.deferred (some [])) := by
    rw [← hW1]; exact (Below.heap_alloc _ _ _ (by simp)).trans (World.alloc_heap_new w _)
  have hI1 : I [] W1 := by rw [← hW1]; exact hI.alloc _ (hI.alloc _ h0)
  have hb1 : Below w.heap.size w W1 := by
    rw [← hW1]; exact ((Below.refl _ w).alloc (Nat.le_refl _) _).alloc (by simp) _
  have hz1 : w.heap.size + 1 < W1.heap.size := (Array.getElem?_eq_some_iff.1 hL1).1
  refine ⟨w.heap.size + 1, [{ target := .collected w.heap.size, args := #[] }], W1, { target := .fn (.func gf) lb, args := #[.func (.yield (w.heap.size + 1)) #[] #[]] }, W1, gf,
    #[.func (.yield (w.heap.size + 1)) #[] #[]] ++ lb, W1, ?_, ?_, ?_, ?_, fun _ => h1, ?_⟩
  · rw [← hW1, hr1]; exact run_enterLoop_outer _ _ _ _ _
  · simp only [resolve, hg]
    simp [go_sem]
  · intro f' hf'; simp [Target.leads] at hf'; subst hf'; exact hFg
  · simp [invoke, go_sem, eg]
  · refine (hseq (w.heap.size + 1) (fun pre W => I pre W ∧ W.heap[w.heap.size + 1]? = some (.loop r1) ∧ W.heap[w.heap.size]? = some (.deferred (some [])))
      W1 hb1 ?_ ?_ ?_ ⟨hI1, hL1, hK1⟩).mono ?_
    · intro s A B row hs hg' hr
      have hw : ∀ r, row = some r → ∃ o : Obj, A.heap[r]? = some o ∧ o.isWalk = true := fun r e => (hr r e).2
      exact ⟨hI s A B row hs.1 hg' (fun r e => by obtain ⟨hB, o, ho, hw⟩ := hr r e; exact ⟨by omega, o, ho, Obj.not_cells_of_walk hw⟩),
        (grownBy_keeps hg' hw hs.2.1 rfl).trans hs.2.1, (grownBy_keeps hg' hw hs.2.2 rfl).trans hs.2.2⟩
    · rintro pre W v ⟨hi, hl, hk⟩
      exact ⟨hIs _ _ _ hi, (Below.heap_setCell _ _ _ _ (by simp; omega)).trans hl, (Below.heap_setCell _ _ _ _ (by simp; omega)).trans hk⟩
    · rintro pre x W ⟨hi, hl, hk⟩ hlen
      have hlt : w.heap.size + 1 < W.heap.size := (Array.getElem?_eq_some_iff.1 hl).1
      have hy := run_yield (P := P) (args := encs x) hl (by rw [hr1]; exact hps x)
      rw [hr1] at hy
      obtain ⟨W2, hW2⟩ : ∃ W2, W.putObj (w.heap.size + 1) (.loop r2) = W2 := ⟨_, rfl⟩
      have hl2 : W2.heap[w.heap.size + 1]? = some (.loop r2) := by rw [← hW2]; exact World.putObj_heap_same hlt
      have hk2 : W2.heap[w.heap.size]? = some (.deferred (some [])) := by rw [← hW2]; exact (World.putObj_heap_other (by omega)).trans hk
      have hx2 : W2.heap[Bx]? = W.heap[Bx]? := by rw [← hW2]; exact World.putObj_heap_other (by omega)
      refine ⟨fn, _, assign, body, hy, roundIn_of_wpIn hfn (hassign _ x W _ ⟨W2, ?_, ?_⟩)⟩
      · rw [← hW2, hr2]
        have := run_beginRound (P := P) hl (by rw [hr1])
        rw [hr1] at this
        exact this
      · refine wpIn_mono (hbody _ pre x W2 (by rw [← hW2]; exact hI.putObj _ hi (by omega) hl rfl) hlen) ?_
        rintro e a3 W3 hp
        cases e with
        | normal =>
          obtain ⟨hk3, hx3, hi3⟩ := hp
          have hl3 := hk3.same _ _ (by omega) hl2 rfl
          have hd3 := hk3.same _ _ (Nat.le_refl _) hk2 rfl
          have hr := run_endRound (P := P) none hl3
          rw [hr2] at hr
          refine ⟨_, _, hr, rfl, ⟨hI.putObj _ hi3 (by omega) hl3 rfl, ?_, (World.putObj_heap_other (by omega)).trans hd3⟩, ?_⟩
          · rw [hr1]; exact World.putObj_heap_same (Array.getElem?_eq_some_iff.1 hl3).1
          · exact (World.putObj_heap_other (by omega)).trans (hx3.trans hx2)
        | _ => exact hp.elim
    · rintro e W2 ⟨⟨v, rfl⟩, xs, hS, hi, hl, hk⟩
      have hr := run_endLoop (P := P) hl (by rw [hr1]; simp [rec_])
      rw [hr1] at hr
      exact ⟨none, _, hr, hdone _ xs _ (Nat.le_refl _) hS (hI.putObj _ hi (by omega) hl rfl) ((World.putObj_heap_other (by omega)).trans hk)⟩
end Go.Proofs.YthkpanggjbckkaaDoor
