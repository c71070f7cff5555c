import Derived.WalkKit
namespace Go.Proofs.Ytbmejolmbfmdiaa
open Go.RowKit

section
variable {P : Program} {ops : Array Oper} {Q : Exit → Act → World → Prop}

/-- A region in whatever order: what holds of what is done. -/
theorem wpAny_inv (J : Array Bool → Act → World → Prop)
    (step : ∀ listed a w i, J listed a w → i ∈ Region.ready .any ops listed → wpOp P ops Q i (J (listed.setIfInBounds i true)) a w)
    (fin : ∀ listed a w, J listed a w → Region.ready .any ops listed = [] → Q .normal a w) :
    ∀ (fuel : Nat) (listed : Array Bool) (a : Act) (w : World), listed.size = ops.size → listed.toList.count false = fuel → J listed a w → wpAny P .any ops Q fuel listed a w := by
  intro fuel
  induction fuel with
  | zero =>
    intro listed a w hs hc hJ
    have hnil : Region.ready .any ops listed = [] := by
      rcases hr : Region.ready .any ops listed with _ | ⟨i, l⟩
      · rfl
      · have hi : i ∈ Region.ready .any ops listed := by rw [hr]; simp
        obtain ⟨h0, o, ho, -⟩ := mem_ready.1 hi
        have hlt : i < listed.size := by rw [hs]; exact (Array.getElem?_eq_some_iff.1 ho).1
        have : false ∈ listed.toList := by
          have e : listed[i] = false := by simpa [hlt] using h0
          rw [← e]; simp
        exact absurd hc (by have := List.count_pos_iff.2 this; omega)
    exact ⟨hnil, fin _ _ _ hJ hnil⟩
  | succ fuel ih =>
    intro listed a w hs hc hJ
    refine ⟨fun h => fin _ _ _ hJ h, fun i hi => ?_⟩
    refine wpOp_mono (fun a' w' hJ' => ih _ _ _ (by simpa using hs) ?_ hJ') (step listed a w i hJ hi)
    obtain ⟨h0, o, ho, -⟩ := mem_ready.1 hi
    have hlt : i < listed.size := by rw [hs]; exact (Array.getElem?_eq_some_iff.1 ho).1
    have e : listed.toList[i]'(by simpa using hlt) = false := by simpa [hlt] using h0
    rw [Array.toList_setIfInBounds, List.count_set (by simpa using hlt)]
    simp [e, hc]

/-- Every edge goes back. -/
def edgesBack (ops : Array Oper) : Bool := (List.range ops.size).all fun i => ((ops[i]?).map (·.after.all fun e => !Region.binds .any e || decide (e.on < i))).getD true

theorem ready_nil (hb : edgesBack ops = true) {listed : Array Bool} (hs : listed.size = ops.size) (h : Region.ready .any ops listed = []) : ∀ i, i < ops.size → listed.getD i false = true := by
  intro i
  induction i using Nat.strongRecOn with
  | _ i ih =>
    intro hi
    cases hl : listed.getD i false with
    | true => rfl
    | false =>
      exfalso
      have : i ∈ Region.ready .any ops listed := by
        rw [mem_ready]
        refine ⟨by simpa [hs, hi] using hl, ops[i], Array.getElem?_eq_getElem hi, fun e he hbd => ?_⟩
        have h1 := List.all_eq_true.1 hb i (by simpa using hi)
        simp only [Array.getElem?_eq_getElem hi, Option.map_some, Option.getD_some, Array.all_eq_true_iff_forall_mem, Bool.or_eq_true, Bool.not_eq_true', decide_eq_true_eq] at h1
        have h2 := (h1 e he).resolve_left (by simp [hbd])
        exact ih e.on h2 (by omega)
      rw [h] at this; cases this

def upd (σ : Nat → Value) (k : Nat) (v : Value) : Nat → Value := fun j => if j = k then v else σ j
theorem upd_map {σ : Nat → Value} {k : Nat} {v : Value} {l : List Nat} (h : k ∉ l) : l.map (upd σ k v) = l.map σ := by
  apply List.map_congr_left
  intro x hx
  unfold upd
  rw [if_neg (by rintro rfl; exact h hx)]

/-- The operations that an operation waits for. -/
def edgesOf (ops : Array Oper) (i : Nat) : List Nat := ((ops[i]?).map fun o => (o.after.toList.filter (Region.binds .any)).map (·.on)).getD []
/-- The slot that an operation writes. -/
def dstOf (ops : Array Oper) (i : Nat) : Option Tmp := (ops[i]?).bind (·.dst)
/-- What the facts of the first m operations speak of is theirs, or of those that they wait for; each later operation waits for all before it. -/
def factsOk (ops : Array Oper) (m : Nat) (sup : Nat → List Nat) : Bool :=
  (List.range m).all (fun j => (List.range m).all fun i => i == j || (edgesOf ops j).contains i || (sup j).all (fun k => dstOf ops i != some k)) &&
  (List.range ops.size).all (fun i => decide (i < m) || (List.range i).all (fun j => (edgesOf ops i).contains j)) && decide (m ≤ ops.size)

theorem mem_edges {i : Nat} {o : Oper} (ho : ops[i]? = some o) {k : Nat} : k ∈ edgesOf ops i ↔ ∃ e ∈ o.after, Region.binds .any e = true ∧ e.on = k := by
  simp only [edgesOf, ho, Option.map_some, Option.getD_some, List.mem_map, List.mem_filter, Array.mem_toList_iff]
  constructor
  · rintro ⟨e, ⟨h1, h2⟩, h3⟩; exact ⟨e, h1, h2, h3⟩
  · rintro ⟨e, h1, h2, h3⟩; exact ⟨e, ⟨h1, h2⟩, h3⟩

theorem ready_edges {listed : Array Bool} {i : Nat} (h : i ∈ Region.ready .any ops listed) : i < ops.size ∧ listed.getD i true = false ∧ ∀ k ∈ edgesOf ops i, listed.getD k false = true := by
  obtain ⟨h0, o, ho, ha⟩ := mem_ready.1 h
  refine ⟨(Array.getElem?_eq_some_iff.1 ho).1, h0, fun k hk => ?_⟩
  obtain ⟨e, he, hb, rfl⟩ := (mem_edges ho).1 hk
  exact ha e he hb

theorem getD_not_both {listed : Array Bool} {i : Nat} (h0 : listed.getD i true = false) (h1 : listed.getD i false = true) : False := by
  rcases Nat.lt_or_ge i listed.size with h | h
  · simp [h] at h0 h1; rw [h0] at h1; cases h1
  · simp [Array.getElem?_eq_none h] at h1

/-- The block at which a value points. -/
def vblk : Value → Option Nat
  | .slice (some a) _ _ => some a.block
  | .pointer (some a) => some a.block
  | .map (some r) => some r
  | _ => none
/-- The first m operations write each a slot of its own. -/
def dstsApart (ops : Array Oper) (m : Nat) : Bool :=
  (List.range m).all fun i => (List.range m).all fun j => i == j || dstOf ops i != dstOf ops j

theorem getD_rep (n i : Nat) : (Array.replicate n false).getD i false = false := by
  by_cases h : i < n <;> simp [Array.getD, h]

/-- A REGION THAT DRAWS ITS ORDER, by facts: each of the first m operations, in whatever world that R leads to, with the facts of those that it waits for, gives its own fact; behind them the others go in their order. -/
theorem wp_region_facts {id : Nat} (hm : P.follows .mixedOrders = true) (hb : edgesBack ops = true) (m : Nat) (sup : Nat → List Nat) (hok : factsOk ops m sup = true) (hap : dstsApart ops m = true) (nw : Nat → Bool)
    (R : World → World → Prop) (G : Nat → List Value → World → Prop) (tmpl : (Nat → Value) → Array Value) (d : List Deferred)
    (hR : ∀ a b c, R a b → R b c → R a c) (hG : ∀ i l w w', i < m → R w w' → G i l w → G i l w')
    (hRs : ∀ a b, R a b → a.heap.size ≤ b.heap.size)
    (σ : Nat → Value) (w : World) (hRd : R w.drew w.drew)
    (step : ∀ i σ w', i < m → R w.drew w' → (∀ j ∈ edgesOf ops i, j < m → G j ((sup j).map σ) w') →
      wpOp P ops Q i (fun a'' w'' => ∃ dst v, dstOf ops i = some dst ∧ a'' = { tmps := tmpl (upd σ dst v), defers := d } ∧ R w' w'' ∧ G i ((sup i).map (upd σ dst v)) w'' ∧ (nw i = true → ∃ b, vblk v = some b ∧ w'.heap.size ≤ b ∧ b < w''.heap.size)) { tmps := tmpl σ, defers := d } w')
    (tail : ∀ σ w', R w.drew w' → (∀ j, j < m → G j ((sup j).map σ) w') → (∀ i j x y, i < m → j < m → i ≠ j → nw i = true → nw j = true → dstOf ops i = some x → dstOf ops j = some y → vblk (σ x) ≠ vblk (σ y)) → wpList P ops Q (ops.toList.drop m) { tmps := tmpl σ, defers := d } w') :
    (Code.region id ops true).wp P Q { tmps := tmpl σ, defers := d } w := by
  simp only [dstsApart, List.all_eq_true, List.mem_range, Bool.or_eq_true, beq_iff_eq, bne_iff_ne] at hap
  simp only [factsOk, Bool.and_eq_true, decide_eq_true_eq, List.all_eq_true, List.mem_range, Bool.or_eq_true, beq_iff_eq, bne_iff_ne, List.contains_iff_mem] at hok
  obtain ⟨⟨hok1, hok2⟩, hok3⟩ := hok
  refine wp_region_any hm ?_
  change wpAny _ _ _ _ _ _ _ w.drew
  let J : Array Bool → Act → World → Prop := fun listed a w' => listed.size = ops.size ∧
    (((∀ i, m ≤ i → listed.getD i false = false) ∧ (∀ j, listed.getD j false = true → ∀ k ∈ edgesOf ops j, listed.getD k false = true) ∧
      ∃ σ, a = { tmps := tmpl σ, defers := d } ∧ R w.drew w' ∧ (∀ j, j < m → listed.getD j false = true → G j ((sup j).map σ) w') ∧
        (∀ j x, j < m → listed.getD j false = true → nw j = true → dstOf ops j = some x → ∃ b, vblk (σ x) = some b ∧ b < w'.heap.size) ∧
        (∀ i j x y, i < m → j < m → i ≠ j → listed.getD i false = true → listed.getD j false = true → nw i = true → nw j = true → dstOf ops i = some x → dstOf ops j = some y → vblk (σ x) ≠ vblk (σ y))) ∨
     (∃ t, m ≤ t ∧ (∀ i, i < ops.size → (listed.getD i false = true ↔ i < t)) ∧ wpList P ops Q (ops.toList.drop t) a w'))
  refine wpAny_inv J ?_ ?_ _ _ _ _ (by simp) (by simp) ⟨by simp, .inl ⟨fun i _ => getD_rep _ _, fun j hj => (by rw [getD_rep] at hj; cases hj), σ, rfl, hRd, fun j _ hj => (by rw [getD_rep] at hj; cases hj), fun j _ _ hj => (by rw [getD_rep] at hj; cases hj), fun i j _ _ _ _ _ hj => (by rw [getD_rep] at hj; cases hj)⟩⟩
  · intro listed a w' i hJ hi
    obtain ⟨hlt, hun, hed⟩ := ready_edges hi
    obtain ⟨hs, hJ⟩ := hJ
    -- the tail's step
    have tailStep : ∀ t, m ≤ t → (∀ j, j < ops.size → (listed.getD j false = true ↔ j < t)) → wpList P ops Q (ops.toList.drop t) a w' → wpOp P ops Q i (J (listed.setIfInBounds i true)) a w' := by
      intro t hmt hl hw
      have hit : i = t := by
        have h1 : ¬ i < t := fun h => getD_not_both hun ((hl i hlt).2 h)
        rcases Nat.lt_or_ge t i with h2 | h2
        · have h3 := (hok2 i hlt).resolve_left (by omega) t h2
          have h4 := (hl t (by omega)).1 (hed t h3)
          omega
        · omega
      subst hit
      have hd : ops.toList.drop i = ops[i] :: ops.toList.drop (i + 1) := by
        rw [List.drop_eq_getElem_cons (by simpa using hlt)]; simp
      rw [hd] at hw
      unfold wpOp
      rw [Array.getElem?_eq_getElem hlt]
      simp only [wpList] at hw ⊢
      have fin : ∀ a'' w'', wpList P ops Q (ops.toList.drop (i + 1)) a'' w'' → J (listed.setIfInBounds i true) a'' w'' := by
        intro a'' w'' h
        refine ⟨by simpa using hs, .inr ⟨i + 1, by omega, fun j hj => ?_, h⟩⟩
        by_cases hji : i = j
        · subst hji; simp [hs, hlt]
        · rw [getD_set_ne false hji, hl j hj]; omega
      split
      · rename_i hwd; rw [if_pos hwd] at hw
        exact hw.imp (Oper.wp_mono fin) (fun h => h)
      · rename_i hwd; rw [if_neg hwd] at hw
        exact fin _ _ hw
    rcases hJ with ⟨hlow, hcl, σ, rfl, hRw, hf, hbl, hne⟩ | ⟨t, hmt, hl, hw⟩
    · rcases Nat.lt_or_ge i m with him | him
      · refine wpOp_mono ?_ (step i σ w' him hRw (fun j hj hjm => hf j hjm (hed j hj)))
        rintro a'' w'' ⟨dst, v, hdst, rfl, hR', hg, hnew⟩
        have hsz := hRs _ _ hR'
        have hsame : ∀ j x, j < m → j ≠ i → dstOf ops j = some x → upd σ dst v x = σ x := by
          intro j x hj hji hx
          unfold upd
          rw [if_neg]
          rintro rfl
          exact (hap j hj i him).elim hji (fun h => h (hx.trans hdst.symm))
        refine ⟨by simpa using hs, .inl ⟨fun j hj => by rw [getD_set_ne false (by omega)]; exact hlow j hj, ?_, upd σ dst v, rfl, hR _ _ _ hRw hR', ?_, ?_, ?_⟩⟩
        · intro j hj k hk
          by_cases hji : i = j
          · subst hji; exact getD_set_true (hed k hk)
          · rw [getD_set_ne false hji] at hj
            exact getD_set_true (hcl j hj k hk)
        · intro j hjm hj
          by_cases hji : i = j
          · subst hji; exact hg
          · rw [getD_set_ne false hji] at hj
            have hnot : dst ∉ sup j := by
              intro hmem
              rcases hok1 j hjm i him with (h1 | h1) | h1
              · exact hji h1
              · exact getD_not_both hun (hcl j hj i h1)
              · exact h1 dst hmem hdst
            rw [upd_map hnot]
            exact hG j _ _ _ hjm hR' (hf j hjm hj)
        · intro j x hjm hj hnj hx
          by_cases hji : i = j
          · subst hji
            obtain rfl : dst = x := by rw [hdst] at hx; simpa using hx
            obtain ⟨b, h1, h2, h3⟩ := hnew hnj
            exact ⟨b, by simpa [upd] using h1, h3⟩
          · rw [getD_set_ne false hji] at hj
            rw [hsame j x hjm (Ne.symm hji) hx]
            obtain ⟨b, h1, h2⟩ := hbl j x hjm hj hnj hx
            exact ⟨b, h1, by omega⟩
        · intro j k x y hjm hkm hjk hj hk hnj hnk hx hy
          by_cases hji : i = j
          · subst hji
            obtain rfl : dst = x := by rw [hdst] at hx; simpa using hx
            rw [getD_set_ne false hjk] at hk
            rw [hsame k y hkm (Ne.symm hjk) hy]
            obtain ⟨b, h1, h2⟩ := hbl k y hkm hk hnk hy
            obtain ⟨b', h1', h2', -⟩ := hnew hnj
            simp only [upd, if_true, h1, h1']
            intro h; simp at h; omega
          · by_cases hki : i = k
            · subst hki
              obtain rfl : dst = y := by rw [hdst] at hy; simpa using hy
              rw [getD_set_ne false hji] at hj
              rw [hsame j x hjm (Ne.symm hji) hx]
              obtain ⟨b, h1, h2⟩ := hbl j x hjm hj hnj hx
              obtain ⟨b', h1', h2', -⟩ := hnew hnk
              simp only [upd, if_true, h1, h1']
              intro h; simp at h; omega
            · rw [getD_set_ne false hji] at hj
              rw [getD_set_ne false hki] at hk
              rw [hsame j x hjm (Ne.symm hji) hx, hsame k y hkm (Ne.symm hki) hy]
              exact hne j k x y hjm hkm hjk hj hk hnj hnk hx hy
      · have hall : ∀ j, j < m → listed.getD j false = true := by
          intro j hj
          have h3 := (hok2 i hlt).resolve_left (by omega) j (by omega)
          exact hed j h3
        refine tailStep m (Nat.le_refl _) (fun j hj => ⟨fun h => ?_, fun h => hall j h⟩) (tail σ w' hRw (fun j hj => hf j hj (hall j hj)) (fun i j x y hi hj hij hni hnj => hne i j x y hi hj hij (hall i hi) (hall j hj) hni hnj))
        rcases Nat.lt_or_ge j m with h' | h'
        · exact h'
        · rw [hlow j h'] at h; cases h
    · exact tailStep t hmt hl hw
  · intro listed a w' hJ hnil
    obtain ⟨hs, hJ⟩ := hJ
    have hall := ready_nil hb hs hnil
    rcases hJ with ⟨hlow, hcl, σ, rfl, hRw, hf, hbl, hne⟩ | ⟨t, hmt, hl, hw⟩
    · have hmo : ops.size = m := by
        rcases Nat.lt_or_ge m ops.size with h | h
        · have h1 := hall m h; rw [hlow m (Nat.le_refl _)] at h1; cases h1
        · omega
      have h1 := tail σ w' hRw (fun j hj => hf j hj (hall j (by omega))) (fun i j x y hi hj hij hni hnj => hne i j x y hi hj hij (hall i (by omega)) (hall j (by omega)) hni hnj)
      rw [List.drop_of_length_le (by simp [hmo])] at h1
      exact h1
    · have : ops.size ≤ t := by
        rcases Nat.lt_or_ge t ops.size with h | h
        · have := (hl t h).1 (hall t h); omega
        · exact h
      rw [List.drop_of_length_le (by simpa using this)] at hw
      exact hw

/-- A frame, of which the marked slots are σ's. -/
def fill (σ : Nat → Value) : List Bool → Nat → List Value → List Value
  | m :: ms, k, v :: r => (if m then σ k else v) :: fill σ ms (k + 1) r
  | _, _, r => r
theorem fill_self (f : Nat → Value) : ∀ (ms : List Bool) (k : Nat) (l : List Value), (∀ j v, l[j]? = some v → f (k + j) = v) → fill f ms k l = l := by
  intro ms
  induction ms with
  | nil => intro k l _; cases l <;> rfl
  | cons m ms ih =>
    intro k l h
    cases l with
    | nil => rfl
    | cons v r =>
      have h0 := h 0 v rfl
      simp only [Nat.add_zero] at h0
      simp only [fill, h0, ite_self]
      rw [ih (k + 1) r (fun j v hj => by have := h (j + 1) v (by simpa using hj); rwa [show k + 1 + j = k + (j + 1) by omega])]
theorem fill_set (σ : Nat → Value) (d : Nat) (u : Value) : ∀ (ms : List Bool) (k : Nat) (l : List Value), (k ≤ d → ms[d - k]? = some true) → (fill σ ms k l).set (d - k) u = (if k ≤ d then fill (upd σ d u) ms k l else (fill σ ms k l).set (d - k) u) := by
  intro ms
  induction ms with
  | nil => intro k l h; split <;> simp_all
  | cons m ms ih =>
    intro k l h
    split
    · rename_i hkd
      cases l with
      | nil => rfl
      | cons v r =>
        by_cases e : d = k
        · subst e
          have hm : m = true := by simpa using h
          subst hm
          simp only [fill, Nat.sub_self, List.set_cons_zero, if_true, upd]
          congr 1
          clear ih h hkd
          -- behind the slot nothing turns
          suffices ∀ (ms : List Bool) (k : Nat) (l : List Value), d < k → fill σ ms k l = fill (fun j => if j = d then u else σ j) ms k l from this _ _ _ (by omega)
          intro ms
          induction ms with
          | nil => intro k l _; cases l <;> rfl
          | cons m ms ih =>
            intro k l hk
            cases l with
            | nil => rfl
            | cons v r => simp only [fill, if_neg (show k ≠ d by omega)]; rw [ih _ _ (by omega)]
        · have h1 := ih (k + 1) r (fun _ => by have := h hkd; rwa [show d - k = (d - (k + 1)) + 1 by omega, List.getElem?_cons_succ] at this)
          rw [if_pos (by omega)] at h1
          rw [show d - k = (d - (k + 1)) + 1 by omega]
          simp only [fill, List.set_cons_succ, h1]
          congr 1
          unfold upd
          by_cases hm : m = true
          · rw [if_pos hm, if_pos hm, if_neg (fun h' => e h'.symm)]
          · rw [if_neg hm, if_neg hm]
    · rfl

/-- One step of such a region. -/
def FactStep (P : Program) (ops : Array Oper) (R : World → World → Prop) (G : Nat → List Value → World → Prop) (sup : Nat → List Nat) (nw : Nat → Bool) (m : Nat) (ms : List Bool) (L : List Value) (d : List Deferred) (w : World) (i : Nat) (o : Oper) : Prop :=
  ∀ (σ : Nat → Value) (w' : World), R w w' → (∀ j ∈ edgesOf ops i, j < m → G j ((sup j).map σ) w') →
    wpList P ops (fun e a'' w'' => e = .normal ∧ a''.defers = d ∧ R w' w'' ∧ G i ((sup i).map fun k => a''.tmps.getD k undef) w'' ∧
      (nw i = true → ∃ b, vblk (o.dst.elim undef (fun k => a''.tmps.getD k undef)) = some b ∧ w'.heap.size ≤ b ∧ b < w''.heap.size)) [o] { tmps := (fill σ ms 0 L).toArray, defers := d } w'
def FactSteps (P : Program) (ops : Array Oper) (R : World → World → Prop) (G : Nat → List Value → World → Prop) (sup : Nat → List Nat) (nw : Nat → Bool) (m : Nat) (ms : List Bool) (L : List Value) (d : List Deferred) (w : World) : List Oper → Nat → Prop
  | [], _ => True
  | o :: r, i => FactStep P ops R G sup nw m ms L d w i o ∧ FactSteps P ops R G sup nw m ms L d w r (i + 1)

theorem step_put {o : Oper} {a : Act} {w : World} {X : Act → World → Prop} (hX : ∀ a'' w'', X a'' w'' → a''.defers = a.defers)
    (h : wpList P ops (fun e a'' w'' => e = .normal ∧ X a'' w'') [o] a w) {K : Act → World → Prop} (hK : ∀ v w'', X (a.put o.dst v) w'' → K (a.put o.dst v) w'') :
    if Region.wanted o (yielded ops a.tmps) then o.wp P a w K Q ∨ (o.asks P a w ∧ LetsOut Q) else K (a.put o.dst undef) w := by
  simp only [wpList] at h
  split
  · rename_i hw
    rw [if_pos hw] at h
    rcases h with h | ⟨-, a0, w0, h0, -⟩
    · refine .inl ?_
      unfold Oper.wp at *
      generalize (execOp a.eval o).run P w = r at *
      cases r with
      | ok n w' =>
        cases n with
        | value v => exact hK _ _ h.2
        | skip => exact hK _ _ h.2
        | defer dd =>
          exfalso
          have := hX _ _ h.2
          cases hdd : o.dst <;> simp [hdd, Act.put] at this
        | enter f args =>
          refine Calls.mono h fun e w'' he => ?_
          cases e with
          | returned u => exact hK _ _ he.2
          | panicked c => exact absurd he.1 (by simp)
          | outgrown => obtain ⟨a0, w0, h0, -⟩ := he; cases h0
        | row row args => exact Rows.mono h fun v w'' he => hK _ _ he.2
        | _ => exact h.elim
      | halt x w' =>
        cases x with
        | panic v => exact absurd h.1 (by simp)
        | _ => exact h.elim
    · cases h0
  · rename_i hw
    rw [if_neg hw] at h
    exact hK _ _ h.2

theorem factSteps_get {R : World → World → Prop} {G : Nat → List Value → World → Prop} {sup : Nat → List Nat} {nw : Nat → Bool} {m : Nat} {ms : List Bool} {L : List Value} {d : List Deferred} {w : World} :
    ∀ (l : List Oper) (i : Nat), FactSteps P ops R G sup nw m ms L d w l i → ∀ j o, l[j]? = some o → FactStep P ops R G sup nw m ms L d w (i + j) o := by
  intro l
  induction l with
  | nil => intro i _ j o h; simp at h
  | cons x l ih =>
    intro i h j o hj
    cases j with
    | zero => simp at hj; subst hj; exact h.1
    | succ j =>
      have := ih (i + 1) h.2 j o (by simpa using hj)
      rwa [show i + 1 + j = i + (j + 1) by omega] at this

/-- Each of the first m operations writes a marked slot. -/
def marksOk (ops : Array Oper) (m : Nat) (ms : List Bool) (n : Nat) : Bool :=
  decide (ms.length = n) && (List.range m).all fun i => ((dstOf ops i).map fun k => (ms[k]?).getD false).getD false

theorem wp_region_steps {id : Nat} {l : List Oper} (m : Nat) (sup : Nat → List Nat) (ms : List Bool) (hm : P.follows .mixedOrders = true) (L : List Value)
    (hb : edgesBack l.toArray = true) (hok : factsOk l.toArray m sup = true) (hap : dstsApart l.toArray m = true) (nw : Nat → Bool) (hms : marksOk l.toArray m ms L.length = true)
    (hsup : ((List.range m).all fun i => (sup i).all fun k => decide (k < L.length) && (ms[k]?).getD false) = true)
    (R : World → World → Prop) (G : Nat → List Value → World → Prop) (d : List Deferred)
    (hR : ∀ a b c, R a b → R b c → R a c) (hG : ∀ i l w w', i < m → R w w' → G i l w → G i l w')
    (hRs : ∀ a b, R a b → a.heap.size ≤ b.heap.size) (w : World) (hRd : R w.drew w.drew)
    (steps : FactSteps P l.toArray R G sup nw m ms L d w.drew (l.take m) 0)
    (tail : ∀ σ w', R w.drew w' → (∀ j, j < m → G j ((sup j).map σ) w') → (∀ i j x y, i < m → j < m → i ≠ j → nw i = true → nw j = true → dstOf l.toArray i = some x → dstOf l.toArray j = some y → vblk (σ x) ≠ vblk (σ y)) → wpList P l.toArray Q (l.drop m) { tmps := (fill σ ms 0 L).toArray, defers := d } w') :
    (Code.region id l.toArray true).wp P Q { tmps := L.toArray, defers := d } w := by
  have e : L = fill (fun k => L.getD k undef) ms 0 L := (fill_self _ _ _ _ (fun j v h => by simp [List.getD, h])).symm
  simp only [marksOk, Bool.and_eq_true, decide_eq_true_eq, List.all_eq_true, List.mem_range] at hms
  obtain ⟨hlen, hmk⟩ := hms
  have flen : ∀ (σ : Nat → Value) (ms : List Bool) (k : Nat) (l : List Value), (fill σ ms k l).length = l.length := by
    intro σ ms
    induction ms with
    | nil => intro k l; cases l <;> rfl
    | cons m ms ih => intro k l; cases l with
      | nil => rfl
      | cons v r => simp [fill, ih]
  have fget : ∀ (σ : Nat → Value) (ms : List Bool) (k : Nat) (l : List Value) (j : Nat), j < l.length → ms[j]? = some true → (fill σ ms k l)[j]? = some (σ (k + j)) := by
    intro σ ms
    induction ms with
    | nil => intro k l j _ h; simp at h
    | cons m ms ih => intro k l j hj h; cases l with
      | nil => simp at hj
      | cons v r =>
        cases j with
        | zero => simp at h; subst h; simp [fill]
        | succ j => simp only [fill, List.getElem?_cons_succ]; rw [ih (k + 1) r j (by simpa using hj) (by simpa using h)]; congr 2; omega
  rw [show ({ tmps := L.toArray, defers := d } : Act) = { tmps := (fill (fun k => L.getD k undef) ms 0 L).toArray, defers := d } by rw [← e]]
  refine wp_region_facts (tmpl := fun σ => (fill σ ms 0 L).toArray) hm hb m sup hok hap nw R G d hR hG hRs _ w hRd ?_ (by simp only; exact tail)
  intro i σ w' him hRw hdeps
  have hmi : m ≤ l.length := by
    simp only [factsOk, Bool.and_eq_true, decide_eq_true_eq] at hok
    simpa using hok.2
  have hil : i < l.length := by omega
  have hget : l[i]? = some l[i] := List.getElem?_eq_getElem hil
  have hst := factSteps_get _ _ steps i l[i] (by rw [List.getElem?_take, if_pos him, hget])
  rw [Nat.zero_add] at hst
  have hst := hst σ w' hRw hdeps
  unfold wpOp
  have hga : l.toArray[i]? = some l[i] := by simp
  rw [hga]
  obtain ⟨dst, hdst⟩ : ∃ dst, (l[i]).dst = some dst := by
    have := hmk i him
    unfold dstOf at this
    rw [hga] at this
    cases hd : (l[i]).dst with
    | none => simp [hd] at this
    | some dst => exact ⟨dst, rfl⟩
  have hmark : ms[dst]? = some true := by
    have := hmk i him
    unfold dstOf at this
    rw [hga] at this
    simp only [Option.bind_some, hdst, Option.map_some, Option.getD_some] at this
    cases hh : ms[dst]? with
    | none => simp [hh] at this
    | some b => simp [hh] at this; rw [this]
  have hput : ∀ v, ({ tmps := (fill σ ms 0 L).toArray, defers := d } : Act).put (l[i]).dst v = { tmps := (fill (upd σ dst v) ms 0 L).toArray, defers := d } := by
    intro v
    have h1 := fill_set σ dst v ms 0 L (fun _ => by simpa using hmark)
    simp only [Nat.zero_le, if_true, Nat.sub_zero] at h1
    simp [hdst, Act.put, ← h1]
  refine step_put (X := fun a'' w'' => a''.defers = d ∧ R w' w'' ∧ G i ((sup i).map fun k => a''.tmps.getD k undef) w'' ∧ (nw i = true → ∃ b, vblk ((l[i]).dst.elim undef (fun k => a''.tmps.getD k undef)) = some b ∧ w'.heap.size ≤ b ∧ b < w''.heap.size)) (fun a'' w'' hx => hx.1) hst ?_
  intro v w'' hx
  rw [hput] at hx ⊢
  refine ⟨dst, v, by simp [dstOf, hga, hdst], rfl, hx.2.1, ?_, ?_⟩
  rotate_left
  · intro hn
    have h1 := hx.2.2.2 hn
    rw [hdst] at h1
    have hdl : dst < L.length := Nat.lt_of_lt_of_eq (List.getElem?_eq_some_iff.1 hmark).1 hlen
    have h4 := fget (upd σ dst v) ms 0 L dst hdl hmark
    simp only [Nat.zero_add] at h4
    simpa [h4, upd] using h1
  have hs : (sup i).map (fun k => (({ tmps := (fill (upd σ dst v) ms 0 L).toArray, defers := d } : Act).tmps).getD k undef) = (sup i).map (upd σ dst v) := by
    apply List.map_congr_left
    intro k hk
    simp only [List.all_eq_true, List.mem_range, Bool.and_eq_true, decide_eq_true_eq] at hsup
    obtain ⟨h1, h2⟩ := hsup i him k hk
    have h3 : ms[k]? = some true := by
      cases hh : ms[k]? with
      | none => simp [hh] at h2
      | some b => simp [hh] at h2; rw [h2]
    have h4 := fget (upd σ dst v) ms 0 L k h1 h3
    simp only [Nat.zero_add] at h4
    simp [h4]
  rw [hs] at hx
  exact hx.2.2.1
end
end Go.Proofs.Ytbmejolmbfmdiaa
