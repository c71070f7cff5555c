import Derived.RangeFuncNested
import Derived.RangeFuncBound
import Derived.RangeFuncCalls
import Derived.RangeFuncLeaves
import Derived.OwnWalkIn
import Derived.Test.YtbmejolmbfmdiaaMem
namespace Go.Proofs.Ytbmejolmbfmdiaa
open Go Go.RowKit

theorem Fr.putObj {S : List Nat} {a w : World} (h : Fr S a w) {l : Nat} (o : Obj) (hl : l ∈ S ∨ a.heap.size ≤ l) : Fr S a (w.putObj l o) :=
  h.grown (grownBy_putObj' w l o) (fun k e => by cases e; exact hl)

/-- What stays as long as the blocks B do. -/
structure Stays {α : Type} (J : List α → List Nat → World → Prop) : Prop where
  fr : ∀ {pre : List α} {B : List Nat} {W W' : World} {S : List Nat}, J pre B W → Fr S W W' → (∀ b ∈ B, b ∉ S) → J pre B W'
  lt : ∀ {pre : List α} {B : List Nat} {W : World}, J pre B W → ∀ b ∈ B, b < W.heap.size

/-- An iterator that gives all of xs, one after the other, to whatever body writes blocks of its own (B) alone; the iterator writes others. A body may stop it. -/
def GivesX {α : Type} (F : Fence) (n : Nat) (P : Program) (g : Nat) (lb : Array Value) (encs : α → Array Value) (xs : List α) (Ok : Nat → Prop) (w : World) : Prop :=
  ∀ (l : Nat) (J Jx : List α → List Nat → World → Prop) (B0 : List Nat) (W : World), Fr [] w W → Stays J → Stays Jx → (∀ b ∈ B0, Ok b) →
    (∀ pre x B W1, J pre B W1 → pre ++ [x] <+: xs → YieldAt F (n - 1) P l (encs x) W1 fun e W' => ∃ B', (∀ b ∈ B', b ∈ B ∨ W1.heap.size ≤ b) ∧ Fr B W1 W' ∧
      ((e = .returned (.bool true) ∧ J (pre ++ [x]) B' W') ∨ (e = .returned (.bool false) ∧ Jx (pre ++ [x]) B' W'))) →
    J [] B0 W →
    CallsIn F n P g (#[.func (.yield l) #[] #[]] ++ lb) W fun e W' => (∃ v, e = .returned v) ∧ Fr B0 W W' ∧ ∃ B', (J xs B' W' ∨ ∃ pre, pre <+: xs ∧ pre ≠ [] ∧ Jx pre B' W')

/-- A round's end. -/
def endsX {α : Type} (I Ix : List α → List Nat → World → Prop) (xs : List α) (B : List Nat) (W : World) : Exit → Act → World → Prop
  | .normal, _, W' => ∃ B', (∀ b ∈ B', b ∈ B ∨ W.heap.size ≤ b) ∧ Fr B W W' ∧ I xs B' W'
  | .ret, _, W' => ∃ B', (∀ b ∈ B', b ∈ B ∨ W.heap.size ≤ b) ∧ Fr B W W' ∧ Ix xs B' W'
  | _, _, _ => False

variable {F : Fence} {n : Nat} {P : Program}

/-- A loop over such an iterator. -/
theorem wpIn_rangeFunc_X {α : Type} {g : Operand} {ps : Array Tmp} {assign body : Code} {Q : Exit → Act → World → Prop} {a : Act} {w : World}
    (hro : F.round = none) (h1 : 1 ≤ n) {gf : Nat} {lb : Array Value} (hg : a.eval g = .func (.func gf) #[] lb) (hFg : F.fn gf) (eg : ∀ args w, (callFunc gf args).run P w = .ok (.enter gf args) w)
    {encs : α → Array Value} {xs : List α} {Ok : Nat → Prop} (hseq : GivesX F (n - 1) P gf lb encs xs Ok w) (hps : ∀ x, (encs x).size = ps.size)
    (I Ix : List α → List Nat → World → Prop) (hI : Stays I) (hIx : Stays Ix) {B0 : List Nat} (h0 : I [] B0 w) (hB0 : ∀ b ∈ B0, Ok b) (hOk : ∀ b, w.heap.size ≤ b → Ok b) (a₁ : α → Act)
    (hassign : ∀ (l : Nat) (x : α) (W : World) (K : Act → World → Prop), K (a₁ x) W →
      assign.wpIn (F.inRound l) (n - 1 - 1) P (Exit.then K (fun _ _ _ => False)) { tmps := (ps.zip (encs x)).foldl (fun t (p, v) => t.setIfInBounds p v) a.tmps, defers := [] } W)
    (hbody : ∀ (l : Nat) (pre : List α) (x : α) (B : List Nat) (W : World), I pre B W → pre ++ [x] <+: xs → body.wpIn (F.inRound l) (n - 1 - 1) P (endsX I Ix (pre ++ [x]) B W) (a₁ x) W)
    (hdone : ∀ (D : Nat) (B : List Nat) (W : World), w.heap.size ≤ D → Fr B0 w W → I xs B W → D ∉ B → W.heap[D]? = some (.deferred (some [])) → Q .normal { a with defers := { target := .collected D, args := #[] } :: a.defers } W)
    (hstop : ∀ (D : Nat) (pre : List α) (B : List Nat) (W : World), w.heap.size ≤ D → Fr B0 w W → pre <+: xs → pre ≠ [] → Ix pre B W → D ∉ B → W.heap[D]? = some (.deferred (some [])) → Code.ret.wpIn F n P Q { a with defers := { target := .collected D, args := #[] } :: a.defers } W) :
    (Code.rangeFunc g ps assign body).wpIn F n P Q a w := by
  refine wpIn_rangeFunc ?_
  intro fn hfn
  rw [hro]
  obtain ⟨rec, hrec⟩ : ∃ rec : LoopState → Option Code → Loop, rec = fun st pe => { state := st, pending := pe, fn, tmps := a.tmps, params := ps, assign, body, defers := w.heap.size } := ⟨_, rfl⟩
  obtain ⟨D, hD⟩ : ∃ D, w.heap.size = D := ⟨_, rfl⟩
  obtain ⟨W1, hW1⟩ : ∃ W1, (w.alloc (.deferred (some []))).alloc (.loop (rec .ready none)) = W1 := ⟨_, rfl⟩
  have hL1 : W1.heap[w.heap.size + 1]? = some (.loop (rec .ready none)) := by
    rw [← hW1]; have := World.alloc_heap_new (w.alloc (.deferred (some []))) (.loop (rec .ready none)); rwa [World.size_alloc] at this
  have hK1 : W1.heap[w.heap.size]? = some (.deferred (some [])) := by
    rw [← hW1]; exact (Below.heap_alloc _ _ _ (by simp)).trans (World.alloc_heap_new w _)
  have hf1 : Fr [] w W1 := by rw [← hW1]; exact ((Fr.refl [] w).alloc _).alloc _
  have hI1 : I [] B0 W1 := hI.fr h0 hf1 (by simp)
  have hlt0 := hI.lt h0
  obtain ⟨J, hJ⟩ : ∃ J : (List α → List Nat → World → Prop) → LoopState → Option Code → List α → List Nat → World → Prop,
      J = fun I st pe pre B W => ∃ B1, B = (w.heap.size + 1) :: w.heap.size :: B1 ∧ (w.heap.size + 1) ∉ B1 ∧ w.heap.size ∉ B1 ∧ I pre B1 W ∧ W.heap[w.heap.size + 1]? = some (.loop (rec st pe)) ∧ W.heap[w.heap.size]? = some (.deferred (some [])) := ⟨_, rfl⟩
  have hJs : ∀ (I : List α → List Nat → World → Prop) (st : LoopState) (pe : Option Code), Stays I → Stays (J I st pe) := by
    intro I st pe hI
    subst hJ
    refine ⟨?_, ?_⟩
    · rintro pre B W W' S ⟨B1, rfl, h1, h2, hi, hl, hk⟩ hf hS
      refine ⟨B1, rfl, h1, h2, hI.fr hi hf (fun b hb => hS b (by simp [hb])), ?_, ?_⟩
      · rw [hf.block _ (Array.getElem?_eq_some_iff.1 hl).1 (hS _ (by simp))]; exact hl
      · rw [hf.block _ (Array.getElem?_eq_some_iff.1 hk).1 (hS _ (by simp))]; exact hk
    · rintro pre B W ⟨B1, rfl, h1, h2, hi, hl, hk⟩ b hb
      simp only [List.mem_cons] at hb
      rcases hb with rfl | rfl | hb
      · exact (Array.getElem?_eq_some_iff.1 hl).1
      · exact (Array.getElem?_eq_some_iff.1 hk).1
      · exact hI.lt hi b hb
  refine ⟨w.heap.size + 1, [{ target := .collected w.heap.size, args := #[] }], W1, { target := .fn (.func gf) lb, args := #[.func (.yield (w.heap.size + 1)) #[] #[]] }, W1, gf,
    #[.func (.yield (w.heap.size + 1)) #[] #[]] ++ lb, W1, ?_, ?_, ?_, ?_, fun _ => h1, ?_⟩
  · rw [← hW1, hrec]; exact run_enterLoop_outer _ _ _ _ _
  · simp only [resolve, hg]
    simp [go_sem]
  · intro f' hf'; simp [Target.leads] at hf'; subst hf'; exact hFg
  · simp [invoke, go_sem, eg]
  · have hmem0 : ∀ b ∈ B0, b < w.heap.size := hlt0
    refine (hseq (w.heap.size + 1) (J I .ready none) (J Ix .done (some .ret)) ((w.heap.size + 1) :: w.heap.size :: B0) W1 hf1 (hJs _ _ _ hI) (hJs _ _ _ hIx)
      (fun b hb => by
        simp only [List.mem_cons] at hb
        rcases hb with rfl | rfl | hb
        · exact hOk _ (by omega)
        · exact hOk _ (by omega)
        · exact hB0 b hb) ?_ ?_).mono ?_
    · -- one round
      intro pre x B W hj hpre
      rw [hJ] at hj
      obtain ⟨B1, rfl, n1, n2, hi, hl, hk⟩ := hj
      have hlt : w.heap.size + 1 < W.heap.size := (Array.getElem?_eq_some_iff.1 hl).1
      have hy := run_yield (P := P) (args := encs x) hl (by rw [hrec]; exact hps x)
      rw [hrec] at hy
      refine ⟨fn, _, assign, body, hy, roundIn_of_wpIn hfn (hassign _ x W _ ⟨_, run_beginRound hl (by rw [hrec]), ?_⟩)⟩
      have hl2 : (W.putObj (w.heap.size + 1) (.loop { rec .ready none with state := .busy })).heap[w.heap.size + 1]? = some (.loop { rec .ready none with state := .busy }) := World.putObj_heap_same hlt
      have hk2 : (W.putObj (w.heap.size + 1) (.loop { rec .ready none with state := .busy })).heap[w.heap.size]? = some (.deferred (some [])) := (World.putObj_heap_other (by omega)).trans hk
      have hfp : Fr [w.heap.size + 1] W (W.putObj (w.heap.size + 1) (.loop { rec .ready none with state := .busy })) := (Fr.refl _ W).putObj _ (.inl (by simp))
      have hsz2 : W.heap.size ≤ (W.putObj (w.heap.size + 1) (.loop { rec .ready none with state := .busy })).heap.size := hfp.size
      obtain ⟨W2, hW2⟩ : ∃ W2, W.putObj (w.heap.size + 1) (.loop { rec .ready none with state := .busy }) = W2 := ⟨_, rfl⟩
      rw [hW2] at hl2 hk2 hfp hsz2 ⊢
      have hi2 : I pre B1 W2 := hI.fr hi hfp (fun b hb e => n1 (by simp at e; subst e; exact hb))
      refine wpIn_mono (hbody _ pre x B1 W2 hi2 hpre) ?_
      have fin : ∀ (I' : List α → List Nat → World → Prop) (hI' : Stays I') (jump : Option Code) (B' : List Nat) (W3 : World), (∀ b ∈ B', b ∈ B1 ∨ W2.heap.size ≤ b) → Fr B1 W2 W3 → I' (pre ++ [x]) B' W3 →
          ∃ W4, (Instr.endRound (w.heap.size + 1) jump).run P W3 = .ok (.bool jump.isNone) W4 ∧ Fr ((w.heap.size + 1) :: w.heap.size :: B1) W W4 ∧
            J I' (if jump.isNone then .ready else .done) jump (pre ++ [x]) ((w.heap.size + 1) :: w.heap.size :: B') W4 := by
        intro I' hI' jump B' W3 hB' hf3 hi3
        have hl3 : W3.heap[w.heap.size + 1]? = some (.loop { rec .ready none with state := .busy }) := by rw [hf3.block _ (Array.getElem?_eq_some_iff.1 hl2).1 n1]; exact hl2
        have hk3 : W3.heap[w.heap.size]? = some (.deferred (some [])) := by rw [hf3.block _ (Array.getElem?_eq_some_iff.1 hk2).1 n2]; exact hk2
        have hr := run_endRound (P := P) jump hl3
        have m1 : (w.heap.size + 1) ∉ B' := fun e => (hB' _ e).elim n1 (fun h => by omega)
        have m2 : w.heap.size ∉ B' := fun e => (hB' _ e).elim n2 (fun h => by omega)
        have hfe : Fr [w.heap.size + 1] W3 (W3.putObj (w.heap.size + 1) (.loop (rec (if jump.isNone then .ready else .done) jump))) := (Fr.refl _ W3).putObj _ (.inl (by simp))
        refine ⟨_, by rw [hrec] at hr; exact hr, ?_, ?_⟩
        · have e := ((hfp.mono (T := (w.heap.size + 1) :: w.heap.size :: B1) (by simp)).trans (hf3.mono (by intro b hb; simp [hb]))).trans (hfe.mono (by simp))
          rw [hrec] at e; exact e
        · rw [hJ]
          have e : I' (pre ++ [x]) B' (W3.putObj (w.heap.size + 1) (.loop (rec (if jump.isNone then .ready else .done) jump))) := hI'.fr hi3 hfe (fun b hb e => m1 (by simp at e; subst e; exact hb))
          have e1 : (W3.putObj (w.heap.size + 1) (.loop (rec (if jump.isNone then .ready else .done) jump))).heap[w.heap.size + 1]? = some (.loop (rec (if jump.isNone then .ready else .done) jump)) := World.putObj_heap_same (Array.getElem?_eq_some_iff.1 hl3).1
          have e2 : (W3.putObj (w.heap.size + 1) (.loop (rec (if jump.isNone then .ready else .done) jump))).heap[w.heap.size]? = some (.deferred (some [])) := (World.putObj_heap_other (by omega)).trans hk3
          rw [hrec] at e e1 e2
          exact ⟨B', rfl, m1, m2, e, by rw [hrec]; exact e1, e2⟩
      have hnew : ∀ B' : List Nat, (∀ b ∈ B', b ∈ B1 ∨ W2.heap.size ≤ b) → ∀ b ∈ (w.heap.size + 1) :: w.heap.size :: B', b ∈ (w.heap.size + 1) :: w.heap.size :: B1 ∨ W.heap.size ≤ b := by
        intro B' hB' b hb
        simp only [List.mem_cons] at hb ⊢
        rcases hb with rfl | rfl | hb
        · exact .inl (.inl rfl)
        · exact .inl (.inr (.inl rfl))
        · rcases hB' b hb with h | h
          · exact .inl (.inr (.inr h))
          · exact .inr (by omega)
      rintro e a3 W3 hp
      cases e with
      | normal =>
        obtain ⟨B', hB', hf3, hi3⟩ := hp
        obtain ⟨W4, hr, hf4, hj4⟩ := fin I hI none B' W3 hB' hf3 hi3
        exact ⟨_, _, hr, _, hnew B' hB', hf4, .inl ⟨rfl, hj4⟩⟩
      | ret =>
        obtain ⟨B', hB', hf3, hi3⟩ := hp
        obtain ⟨W4, hr, hf4, hj4⟩ := fin Ix hIx (some .ret) B' W3 hB' hf3 hi3
        exact ⟨_, _, hr, _, hnew B' hB', hf4, .inr ⟨rfl, hj4⟩⟩
      | exit id => exact hp.elim
      | goto t => exact hp.elim
      | panic ch => exact hp.elim
      | outgrown => exact hp.elim
    · rw [hJ]
      exact ⟨B0, rfl, fun e => by have := hmem0 _ e; omega, fun e => by have := hmem0 _ e; omega, hI1, hL1, hK1⟩
    · -- behind the iterator
      rintro e W2 ⟨⟨v, rfl⟩, hf2, B', hj⟩
      have hsz1 : w.heap.size + 1 < W1.heap.size := (Array.getElem?_eq_some_iff.1 hL1).1
      have hfw : Fr B0 w W2 := (hf1.mono (by simp)).weak hf2 (fun b hb => by
        simp only [List.mem_cons] at hb
        rcases hb with rfl | rfl | hb
        · exact .inr (by omega)
        · exact .inr (by omega)
        · exact .inl hb)
      rcases hj with hj | ⟨pre, hpre, hne, hj⟩
      · rw [hJ] at hj
        obtain ⟨B1, rfl, n1, n2, hi, hl, hk⟩ := hj
        have hr := run_endLoop (P := P) hl (by rw [hrec]; simp)
        have hpe : (rec .ready none).pending = none := by rw [hrec]
        rw [hpe] at hr
        exact ⟨none, _, hr, hdone _ B1 _ (Nat.le_refl _) (hfw.putObj _ (.inr (by omega))) (hI.fr hi ((Fr.refl [w.heap.size + 1] W2).putObj _ (.inl (by simp))) (fun b hb e => n1 (by simp at e; subst e; exact hb))) n2 ((World.putObj_heap_other (by omega)).trans hk)⟩
      · rw [hJ] at hj
        obtain ⟨B1, rfl, n1, n2, hi, hl, hk⟩ := hj
        have hr := run_endLoop (P := P) hl (by rw [hrec]; simp)
        have hpe : (rec .done (some .ret)).pending = some .ret := by rw [hrec]
        rw [hpe] at hr
        exact ⟨some .ret, _, hr, hstop _ pre B1 _ (Nat.le_refl _) (hfw.putObj _ (.inr (by omega))) hpre hne (hIx.fr hi ((Fr.refl [w.heap.size + 1] W2).putObj _ (.inl (by simp))) (fun b hb e => n1 (by simp at e; subst e; exact hb))) n2 ((World.putObj_heap_other (by omega)).trans hk)⟩
/-- An append of one element, of several cells, in whatever fence. -/
theorem run_app1s {t ty E : TypeId} {z : Value} {size bytes : Nat} (el : Elem P t E z size bytes) {W : World}
    {base : Nat} {v : Value} {k : Nat} {xs : List Value} (hown : W.ownsRow base E size v k xs) {T : TypeId} (us : List Value) (hl : us.length = size) (h1 : ∀ u ∈ us, u.oneCell' = true)
    (h63 : k + 1 ≤ 9223372036854775807) (hbytes : (k + 1) * bytes ≤ 140737488355328) (hbase : base ≤ W.heap.size) :
    ∃ g c w', (Builtin.append_ #[t, t] ty #[v, .slice (some ⟨W.heap.size, 0, none⟩) 1 1]).run P (W.alloc (.cells us.toArray T)) = .ok (.slice (some ⟨g, 0, none⟩) (k + 1) c) w' ∧
      w'.ownsRow base E size (.slice (some ⟨g, 0, none⟩) (k + 1) c) (k + 1) (xs ++ us) ∧ Fr v.ownBlock.toList W w' ∧ base ≤ g ∧ g < w'.heap.size ∧ (v.ownBlock = some g ∨ W.heap.size ≤ g) := by
  obtain ⟨i, hi, hz, hsz, hb⟩ := info_parts el.info
  have hnews : ∀ j u, us[j]? = some u → (W.alloc (.cells us.toArray T)).cell? ((⟨W.heap.size, 0, none⟩ : Addr).add j) = some u := by
    intro j u hj
    have e : (⟨W.heap.size, 0, none⟩ : Addr).add j = ⟨W.heap.size, j, none⟩ := by unfold Addr.add; split <;> simp_all
    rw [e, World.cell?_alloc_new]
    simpa using hj
  by_cases hroom : ∃ g cap, v = .slice (some ⟨g, 0, none⟩) k cap ∧ k + 1 ≤ cap
  · obtain ⟨g, cap, rfl, hcap⟩ := hroom
    obtain ⟨w', hrun, h2, h3⟩ := run_append_fits (P := P) (W.alloc (.cells us.toArray T)) base t ty E i size el.ut hi hsz g k cap xs (hown.alloc _) ⟨W.heap.size, 0, none⟩ 1 1 us (by simpa using hl) hnews h1 hcap
    have hlt := hown.lt g rfl
    exact ⟨g, cap, w', hrun, h2, ((Fr.refl _ _).alloc _).trans (Fr.of_grown h3), hlt.1, by have := h3.size; simp at this; omega, .inl rfl⟩
  · rcases hown.2 with ⟨rfl, rfl⟩ | ⟨g, cap, cur, rfl, hbg, hg, hnc, hcm, hcs, htake⟩
    · have hx0 : xs = [] := List.eq_nil_of_length_eq_zero (by simpa using hown.1)
      subst hx0
      obtain ⟨v', w', hrun, h2, h3, _⟩ := run_append_own (P := P) (W.alloc (.cells us.toArray T)) (W.alloc (.cells us.toArray T)).heap.size t ty E i z size bytes el.ut hi hz hsz hb el.zs el.pos (.slice none 0 0) 0 [] (World.ownsRow_nil _ _ E size) ⟨W.heap.size, 0, none⟩ 1 1 us (by simpa using hl) hnews h1 (by simp [maxLen]) (by simpa using hbytes) (Nat.le_refl _)
      obtain ⟨g', c', rfl, h4, h5⟩ := own_form h2 (by omega)
      simp only [World.size_alloc] at h4
      exact ⟨g', c', w', hrun, own_base h2 (by simp; omega), ((Fr.refl _ _).alloc _).trans ((Fr.of_grown h3).mono (by simp)), by omega, h5, .inr (by omega)⟩
    · have hfull : cap < k + 1 := by
        rcases Nat.lt_or_ge cap (k + 1) with h' | h'
        · exact h'
        · exact absurd ⟨g, cap, rfl, h'⟩ hroom
      obtain ⟨v', w', hrun, h2, h3⟩ := run_append_arg_grows (P := P) (W.alloc (.cells us.toArray T)) t ty E i z size bytes el.ut hi hz hsz hb el.zs el.pos ⟨g, 0, none⟩ k cap xs hown.1 (own_cells (hown.alloc _)) ⟨W.heap.size, 0, none⟩ 1 1 us (by simpa using hl) hnews hfull (le_maxLen h63) hbytes
      obtain ⟨g', c', rfl, h4, h5⟩ := own_form h2 (by omega)
      simp only [World.size_alloc] at h4
      exact ⟨g', c', w', hrun, own_base h2 (by simp; omega), ((Fr.refl _ _).alloc _).trans ((Fr.of_grown h3).mono (by simp)), by omega, h5, .inr (by omega)⟩
theorem wpListIn_app1s {t E : TypeId} {z : Value} {size bytes : Nat} (el : Elem P t E z size bytes)
    {ops : Array Oper} {rest : List Oper} {o : Oper} {a : Act} {Q : Exit → Act → World → Prop} {W : World} (hgd : o.guard = none) (s x : Operand)
    (ho : o.op = .call { callee := .builtin .append, args := #[s, x], argTypes := #[t, t] })
    {base : Nat} {v : Value} {k : Nat} {xs : List Value} (hown : W.ownsRow base E size v k xs) (hs : a.eval s = v)
    {T : TypeId} (us : List Value) (hx : a.eval x = .slice (some ⟨W.heap.size, 0, none⟩) 1 1) (hl : us.length = size) (h1 : ∀ u ∈ us, u.oneCell' = true)
    (h63 : k + 1 ≤ 9223372036854775807) (hbytes : (k + 1) * bytes ≤ 140737488355328) (hbase : base ≤ W.heap.size)
    (h : ∀ g c w', w'.ownsRow base E size (.slice (some ⟨g, 0, none⟩) (k + 1) c) (k + 1) (xs ++ us) → Fr v.ownBlock.toList W w' → base ≤ g → g < w'.heap.size →
      (v.ownBlock = some g ∨ W.heap.size ≤ g) → wpListIn F n P ops Q rest (a.put o.dst (.slice (some ⟨g, 0, none⟩) (k + 1) c)) w') :
    wpListIn F n P ops Q (o :: rest) a (W.alloc (.cells us.toArray T)) := by
  refine wpListIn_plain hgd fun K hK' => ?_
  obtain ⟨g, c, w', hrun, r1, r2, r3, r4, r5⟩ := run_app1s (P := P) (t := t) (ty := o.type) el hown (T := T) us hl h1 h63 hbytes hbase
  unfold Oper.wpIn
  refine ⟨?_, ?_⟩
  · simp [Oper.about, ho, resolve, Target.leads, Sem.run_pure]
  · rw [Oper.semAt_plain F _ _ (by rw [ho]; intro c hc'; cases hc')]
    simp [execOp, ho, resolve, invoke, builtin, hs, hx, hrun, Result.andThen]
    exact hK' _ _ (h g c w' r1 r2 r3 r4 r5)
end Go.Proofs.Ytbmejolmbfmdiaa
