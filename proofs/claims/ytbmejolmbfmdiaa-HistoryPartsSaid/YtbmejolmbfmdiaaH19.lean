import Derived.Test.YtbmejolmbfmdiaaH18
namespace Go.Proofs.Ytbmejolmbfmdiaa
open Go Go.RowKit Go.Lib Go.Proofs.MapL

/-- The places of a shard's events; the events themselves. -/
def ats (s : Int) : Nat → List Ev → List Int
  | _, [] => []
  | i, x :: l => (if x.sh = s then [(i : Int)] else []) ++ ats s (i + 1) l
def ownS (s : Int) (xs : List Ev) : List Ev := xs.filter fun x => decide (x.sh = s)
theorem ats_len (s : Int) : ∀ (l : List Ev) (i : Nat), (ats s i l).length = (ownS s l).length
  | [], _ => rfl
  | x :: l, i => by
    have h := ats_len s l (i + 1)
    by_cases hx : x.sh = s
    · simp [ats, ownS, hx] at h ⊢; exact h
    · simp [ats, ownS, hx] at h ⊢; exact h
theorem ats_app (s : Int) : ∀ (l : List Ev) (i : Nat) (x : Ev), ats s i (l ++ [x]) = ats s i l ++ if x.sh = s then [((i + l.length : Nat) : Int)] else []
  | [], i, x => by simp [ats]
  | y :: l, i, x => by
    rw [List.cons_append, ats, ats, ats_app s l (i + 1) x, List.append_assoc, show i + 1 + l.length = i + (y :: l).length by simp; omega]
theorem ownS_app (s : Int) (l : List Ev) (x : Ev) : ownS s (l ++ [x]) = ownS s l ++ if x.sh = s then [x] else [] := by
  unfold ownS
  by_cases hx : x.sh = s <;> simp [hx]
theorem ats_lt (s : Int) : ∀ (l : List Ev) (i : Nat), ∀ y ∈ ats s i l, ∃ t : Nat, y = ((i + t : Nat) : Int) ∧ t < l.length
  | [], _, _, h => by cases h
  | x :: l, i, y, h => by
    rw [ats] at h
    rcases List.mem_append.1 h with h | h
    · split at h
      · simp at h; exact ⟨0, by simpa using h, by simp⟩
      · cases h
    · obtain ⟨t, h1, h2⟩ := ats_lt s l (i + 1) y h
      exact ⟨t + 1, by rw [h1]; congr 1; omega, by simp; omega⟩
section
variable (ρ : En → List Rr) (n room s : Int)
/-- What is wrong of one shard's. -/
def wrongS : St → Nat → List Ev → List Int
  | _, _, [] => []
  | st, i, x :: l => (if x.sh = s then (if okX ρ n room st x then [] else [(i : Int)]) else []) ++ wrongS (stX ρ n room st x) (i + 1) l
theorem wrongS_filter (p : Int → Bool) : ∀ (l : List Ev) (st : St) (i : Nat), (∀ (t : Nat) x, l[t]? = some x → p ((i + t : Nat) : Int) = decide (x.sh = s)) → (wrongL ρ n room st i l).filter p = wrongS ρ n room s st i l
  | [], _, _, _ => rfl
  | x :: l, st, i, h => by
    have h0 := h 0 x rfl
    have ih := wrongS_filter p l (stX ρ n room st x) (i + 1) (fun t y hy => by
      have := h (t + 1) y (by simpa using hy)
      rw [show i + 1 + t = i + (t + 1) by omega]; exact this)
    rw [Nat.add_zero] at h0
    rw [wrongL, wrongS, List.filter_append, ih]
    congr 1
    by_cases hx : x.sh = s
    · rw [if_pos hx]
      split
      · rfl
      · simp [h0, hx]
    · rw [if_neg hx]
      split
      · rfl
      · simp [h0, hx]
theorem stX_same {st st' : St} (h : st s = st' s) {x : Ev} (hx : x.sh = s) : stX ρ n room st x s = stX ρ n room st' x s := by
  unfold stX
  rw [hx, h]
theorem stX_other {st : St} {x : Ev} (hx : ¬ x.sh = s) : stX ρ n room st x s = st s := by
  unfold stX
  rw [if_neg (fun e => hx e.1.symm)]
theorem wrongS_own : ∀ (l : List Ev) (st st' : St) (i j : Nat) (g : Int → Int), st s = st' s → (∀ (t : Nat) y, (ats s i l)[t]? = some y → g ((j + t : Nat) : Int) = y) → (wrongL ρ n room st' j (ownS s l)).map g = wrongS ρ n room s st i l
  | [], _, _, _, _, _, _, _ => rfl
  | x :: l, st, st', i, j, g, hs, hg => by
    by_cases hx : x.sh = s
    · have e1 : ownS s (x :: l) = x :: ownS s l := by unfold ownS; simp [hx]
      have e2 : ats s i (x :: l) = (i : Int) :: ats s (i + 1) l := by rw [ats, if_pos hx]; rfl
      rw [e2] at hg
      have h0 := hg 0 i rfl
      rw [Nat.add_zero] at h0
      have ih := wrongS_own l (stX ρ n room st x) (stX ρ n room st' x) (i + 1) (j + 1) g (stX_same ρ n room s hs hx) (fun t y hy => by
        have := hg (t + 1) y (by simpa using hy)
        rw [show j + 1 + t = j + (t + 1) by omega]; exact this)
      have hok : okX ρ n room st' x = okX ρ n room st x := by unfold okX; rw [hx, hs]
      rw [e1, wrongL, wrongS, List.map_append, ih, if_pos hx, hok]
      congr 1
      split
      · rfl
      · simp [h0]
    · have e1 : ownS s (x :: l) = ownS s l := by unfold ownS; simp [hx]
      have e2 : ats s i (x :: l) = ats s (i + 1) l := by rw [ats, if_neg hx]; rfl
      rw [e2] at hg
      rw [e1, wrongS, if_neg hx, List.nil_append]
      exact wrongS_own l (stX ρ n room st x) st' (i + 1) j g (by rw [stX_other ρ n room s hx]; exact hs) hg
theorem wrongL_mem : ∀ (l : List Ev) (st : St) (i : Nat), ∀ y ∈ wrongL ρ n room st i l, ∃ t : Nat, y = ((i + t : Nat) : Int) ∧ t < l.length
  | [], _, _, _, h => by cases h
  | x :: l, st, i, y, h => by
    rw [wrongL] at h
    rcases List.mem_append.1 h with h | h
    · split at h
      · cases h
      · simp at h; exact ⟨0, by simpa using h, by simp⟩
    · obtain ⟨t, h1, h2⟩ := wrongL_mem l _ (i + 1) y h
      exact ⟨t + 1, by rw [h1]; congr 1; omega, by simp; omega⟩
end
/-- What is wrong of one shard's is so of its events alone. -/
theorem parts_law (ρ : En → List Rr) (n room s : Int) (xs : List Ev) : (wrongL ρ n room st0 0 xs).filter (fun v => decide (((xs[v.toNat]?).map Ev.sh) = some s)) = (wrongL ρ n room st0 0 (ownS s xs)).map (fun v => ((ats s 0 xs)[v.toNat]?).getD 0) := by
  rw [wrongS_filter ρ n room s _ xs st0 0 (fun t x hx => by rw [Nat.zero_add]; simp [hx]),
    wrongS_own ρ n room s xs st0 st0 0 0 _ rfl (fun t y hy => by rw [Nat.zero_add]; simp [hy])]
/-- A begin's are the whole's that are below it. -/
theorem begin_law (ρ : En → List Rr) (n room : Int) (xs : List Ev) (k : Nat) (hk : k ≤ xs.length) : ∃ R, wrongL ρ n room st0 0 xs = wrongL ρ n room st0 0 (xs.take k) ++ R ∧ (∀ y ∈ wrongL ρ n room st0 0 (xs.take k), y < (k : Int)) ∧ ∀ y ∈ R, (k : Int) ≤ y := by
  refine ⟨_, by conv => lhs; rw [← List.take_append_drop k xs, wrongL_app], fun y hy => ?_, fun y hy => ?_⟩
  · obtain ⟨t, h1, h2⟩ := wrongL_mem ρ n room _ _ _ y hy
    rw [List.length_take] at h2
    omega
  · obtain ⟨t, h1, h2⟩ := wrongL_mem ρ n room _ _ _ y hy
    rw [List.length_take] at h1
    omega

theorem flat_at : ∀ (l : List Ev) (i j : Nat) (h : i < l.length), j < 20 → (l.flatMap evC)[i * 20 + j]? = (evC l[i])[j]?
  | x :: l, 0, j, _, hj => by
    rw [List.flatMap_cons, List.getElem?_append_left (by rw [evC_len]; omega)]
    rw [show 0 * 20 + j = j by omega]; rfl
  | x :: l, i + 1, j, h, hj => by
    rw [List.flatMap_cons, List.getElem?_append_right (by rw [evC_len]; omega), evC_len, show (i + 1) * 20 + j - 20 = i * 20 + j by omega, flat_at l i j (by simpa using h) hj]
    rfl
theorem elE : Elem Try.prog 24 38 (.agg #[.int .i64 0, .string ⟨#[]⟩, .int .u16 0, .int .u16 0, .slice none 0 0, .int .i64 0, .int .i64 0, .int .u64 0, .int .u64 0, .int .i64 0, .string ⟨#[]⟩, .int .u16 0, .int .u16 0, .slice none 0 0, .int .i64 0, .int .i64 0, .int .u64 0, .bool false, .int .i64 0, .slice none 0 0]) 20 208 := ⟨Try.underlying24, by kernel_rfl, rfl, by omega⟩
/-- A row of events of the law's own. -/
def OwnE (w : World) (base : Nat) (v : Value) (l : List Ev) : Prop := w.ownsRow base 38 20 v l.length (l.flatMap evC)
def OwnI (w : World) (base : Nat) (v : Value) (l : List Int) : Prop := w.ownsRow base 3 1 v l.length (l.map (Value.int .i64))
theorem OwnE.sl {w : World} {base : Nat} {v : Value} {l : List Ev} (h : OwnE w base v l) (hl : l.length ≤ 1000000) : ∃ A c, v = .slice A l.length c ∧ l.length ≤ c ∧ SlIs evC 20 w A l.length l ∧ (∀ k, v.ownBlock = some k → base ≤ k ∧ k < w.heap.size) := by
  have hlt := World.ownsRow.lt h
  unfold OwnE at h
  rcases h.2 with ⟨rfl, hn⟩ | ⟨g, cap, cur, rfl, hbg, hgg, hnc, -⟩
  · have : l = [] := List.eq_nil_of_length_eq_zero hn
    subst this
    exact ⟨none, 0, rfl, Nat.le_refl _, ⟨rfl, by simp, fun h => absurd h (by simp)⟩, hlt⟩
  · refine ⟨some ⟨g, 0, none⟩, cap, rfl, hnc, ⟨rfl, by omega, fun _ => ⟨g, 0, rfl, (hlt g rfl).2, ?_⟩⟩, hlt⟩
    intro i hi j u hu
    have hj : j < 20 := by have := (List.getElem?_eq_some_iff.1 hu).1; rwa [evC_len] at this
    have h2 := h.cellAt (i * 20 + j) (by omega)
    rw [flat_at l i j hi hj, hu] at h2
    rw [show 0 + i * 20 + j = i * 20 + j by omega]
    exact h2
theorem SlIs.take {α : Type} {cs : α → List Value} {k : Nat} {w : World} {A : Option Addr} {l : List α} (h : SlIs cs k w A l.length l) {m : Nat} (hm : m ≤ l.length) : SlIs cs k w A m (l.take m) := by
  refine ⟨by rw [List.length_take]; omega, by have := h.le; rw [List.length_take]; omega, fun h0 => ?_⟩
  rw [List.length_take] at h0
  obtain ⟨b, off, e, hb, hc⟩ := h.row (by omega)
  refine ⟨b, off, e, hb, fun i hi j u hu => ?_⟩
  rw [List.length_take] at hi
  exact hc i (by omega) j u (by rw [List.getElem_take] at hu; exact hu)
end Go.Proofs.Ytbmejolmbfmdiaa
