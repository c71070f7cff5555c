import Derived.Test.YtbmejolmbfmdiaaReg
namespace Go.Proofs.Ytbmejolmbfmdiaa
open Go.RowKit

section
variable {P : Program} {ops : Array Oper} {Q : Exit → Act → World → Prop}

/-- A write, if there is a slot. -/
def updo (σ : Nat → Value) (k : Option Nat) (v : Value) : Nat → Value := match k with | some k => upd σ k v | none => σ
theorem updo_map {σ : Nat → Value} {k : Option Nat} {v : Value} {l : List Nat} (h : ∀ x, k = some x → x ∉ l) : l.map (updo σ k v) = l.map σ := by
  cases k with
  | none => rfl
  | some x => exact upd_map (h x rfl)

/-- How many loud operations stand before one. -/
def rankOf (loud : Nat → Bool) (i : Nat) : Nat := ((List.range i).filter loud).length
def phasesOk (ops : Array Oper) (sup : Nat → List Nat) (loud : Nat → Bool) (supH : Nat → List Nat) : Bool :=
  ((List.range ops.size).all fun j => (List.range ops.size).all fun i => i == j || (edgesOf ops j).contains i || (sup j).all (fun k => dstOf ops i != some k)) &&
  ((List.range ops.size).all fun c => !loud c || (List.range c).all fun j => !(loud j && rankOf loud j + 1 == rankOf loud c) || (edgesOf ops c).contains j) &&
  ((List.range ops.size).all fun c => !loud c || (List.range ops.size).all fun i => i == c || (edgesOf ops c).contains i || (supH (rankOf loud c + 1)).all (fun k => dstOf ops i != some k)) &&
  ((List.range ops.size).all fun i => (supH 0).all (fun k => dstOf ops i != some k)) &&
  ((List.range ops.size).all fun i => (List.range ops.size).all fun j => i == j || dstOf ops i == none || dstOf ops i != dstOf ops j)

theorem rank_succ (loud : Nat → Bool) (i : Nat) : rankOf loud (i + 1) = rankOf loud i + (if loud i then 1 else 0) := by
  unfold rankOf
  rw [List.range_succ, List.filter_append]
  by_cases h : loud i <;> simp [h]
theorem rank_le {loud : Nat → Bool} {i j : Nat} (h : i ≤ j) : rankOf loud i ≤ rankOf loud j := by
  induction j with
  | zero => obtain rfl : i = 0 := by omega
            exact Nat.le_refl _
  | succ j ih =>
    rcases Nat.lt_or_ge j i with h' | h'
    · obtain rfl : i = j + 1 := by omega
      exact Nat.le_refl _
    · have := ih h'; rw [rank_succ]; omega
theorem rank_lt {loud : Nat → Bool} {i j : Nat} (h : i < j) (hi : loud i = true) : rankOf loud i < rankOf loud j := by
  have h1 := rank_succ loud i
  rw [if_pos hi] at h1
  have h2 := rank_le (loud := loud) (show i + 1 ≤ j from h)
  omega
/-- Each rank below a loud one's is another loud one's. -/
theorem rank_has {loud : Nat → Bool} : ∀ (j k : Nat), k < rankOf loud j → ∃ i, i < j ∧ loud i = true ∧ rankOf loud i = k := by
  intro j
  induction j with
  | zero => intro k h; simp [rankOf] at h
  | succ j ih =>
    intro k h
    rw [rank_succ] at h
    rcases Nat.lt_or_ge k (rankOf loud j) with h' | h'
    · obtain ⟨i, h1, h2, h3⟩ := ih k h'
      exact ⟨i, by omega, h2, h3⟩
    · by_cases hl : loud j = true
      · rw [if_pos hl] at h; exact ⟨j, by omega, hl, by omega⟩
      · rw [if_neg hl] at h; omega

/-- A REGION THAT DRAWS ITS ORDER, by facts and phases. The loud operations come in their order, each with the phase's fact, and leaves the next one's; each other one leaves the phase's fact as it is (R1). -/
theorem wp_region_phases {id : Nat} (hm : P.follows .mixedOrders = true) (hb : edgesBack ops = true) (sup : Nat → List Nat) (loud : Nat → Bool) (supH : Nat → List Nat) (hok : phasesOk ops sup loud supH = true) (nw : Nat → Bool)
    (R R1 : World → World → Prop) (G : Nat → List Value → World → Prop) (H : Nat → List Value → World → Prop) (tmpl : (Nat → Value) → Array Value) (d : List Deferred)
    (hR : ∀ a b c, R a b → R b c → R a c) (_hR1 : ∀ a b, R1 a b → R a b) (hG : ∀ i l w w', R w w' → G i l w → G i l w') (hH : ∀ k l w w', R1 w w' → H k l w → H k l w')
    (hRs : ∀ a b, R a b → a.heap.size ≤ b.heap.size)
    (σ : Nat → Value) (w : World) (hRd : R w.drew w.drew) (hH0 : H 0 ((supH 0).map σ) w.drew)
    (step : ∀ i σ w', i < ops.size → R w.drew w' → (∀ j ∈ edgesOf ops i, G j ((sup j).map σ) w') → (loud i = true → H (rankOf loud i) ((supH (rankOf loud i)).map σ) w') →
      wpOp P ops Q i (fun a'' w'' => ∃ v, a'' = { tmps := tmpl (updo σ (dstOf ops i) v), defers := d } ∧ R w' w'' ∧ G i ((sup i).map (updo σ (dstOf ops i) v)) w'' ∧
        (loud i = true → H (rankOf loud i + 1) ((supH (rankOf loud i + 1)).map (updo σ (dstOf ops i) v)) w'') ∧ (loud i = false → R1 w' w'') ∧
        (nw i = true → ∃ b, vblk v = some b ∧ w'.heap.size ≤ b ∧ b < w''.heap.size)) { tmps := tmpl σ, defers := d } w')
    (fin : ∀ σ w', R w.drew w' → (∀ j, j < ops.size → G j ((sup j).map σ) w') → H (rankOf loud ops.size) ((supH (rankOf loud ops.size)).map σ) w' →
      (∀ i j x y, i < ops.size → j < ops.size → i ≠ j → nw i = true → nw j = true → dstOf ops i = some x → dstOf ops j = some y → vblk (σ x) ≠ vblk (σ y)) → Q .normal { tmps := tmpl σ, defers := d } w') :
    (Code.region id ops true).wp P Q { tmps := tmpl σ, defers := d } w := by
  simp only [phasesOk, Bool.and_eq_true, List.all_eq_true, List.mem_range, Bool.or_eq_true, beq_iff_eq, bne_iff_ne, List.contains_iff_mem, Bool.not_eq_true', Bool.and_eq_false_iff, beq_eq_false_iff_ne] at hok
  obtain ⟨⟨⟨⟨hok1, hok2⟩, hok3⟩, hok4⟩, hap⟩ := hok
  refine wp_region_any hm ?_
  change wpAny _ _ _ _ _ _ _ w.drew
  let J : Array Bool → Act → World → Prop := fun listed a w' => listed.size = ops.size ∧ (∀ j, listed.getD j false = true → ∀ k ∈ edgesOf ops j, listed.getD k false = true) ∧
      ∃ σ k, a = { tmps := tmpl σ, defers := d } ∧ R w.drew w' ∧ (∀ j, j < ops.size → listed.getD j false = true → G j ((sup j).map σ) w') ∧
        (∀ j, j < ops.size → loud j = true → (listed.getD j false = true ↔ rankOf loud j < k)) ∧ k ≤ rankOf loud ops.size ∧ H k ((supH k).map σ) w' ∧
        (∀ j x, j < ops.size → listed.getD j false = true → nw j = true → dstOf ops j = some x → ∃ b, vblk (σ x) = some b ∧ b < w'.heap.size) ∧
        (∀ i j x y, i < ops.size → j < ops.size → i ≠ j → listed.getD i false = true → listed.getD j false = true → nw i = true → nw j = true → dstOf ops i = some x → dstOf ops j = some y → vblk (σ x) ≠ vblk (σ y))
  refine wpAny_inv J ?_ ?_ _ _ _ _ (by simp) (by simp) ⟨by simp, fun j hj => (by rw [getD_rep] at hj; cases hj), σ, 0, rfl, hRd, fun j _ hj => (by rw [getD_rep] at hj; cases hj), fun j _ _ => by rw [getD_rep]; simp, Nat.zero_le _, hH0, fun j _ _ hj => (by rw [getD_rep] at hj; cases hj), fun i j _ _ _ _ _ hj => (by rw [getD_rep] at hj; cases hj)⟩
  · intro listed a w' i hJ hi
    obtain ⟨hlt, hun, hed⟩ := ready_edges hi
    obtain ⟨hs, hcl, σ, k, rfl, hRw, hf, hk, hkm, hHk, hbl, hne⟩ := hJ
    -- a loud one's rank is the phase
    have hrank : loud i = true → rankOf loud i = k := by
      intro hl
      have h1 : k ≤ rankOf loud i := by
        rcases Nat.lt_or_ge (rankOf loud i) k with h | h
        · exact absurd ((hk i hlt hl).2 h) (fun h' => getD_not_both hun h')
        · exact h
      rcases Nat.lt_or_ge k (rankOf loud i) with h | h
      · exfalso
        obtain ⟨c, hc, hcl', hcr⟩ := rank_has (loud := loud) i (rankOf loud i - 1) (by omega)
        rcases (hok2 i hlt).resolve_left (by simp [hl]) c hc with (h2 | h2) | h2
        · rw [hcl'] at h2; cases h2
        · omega
        · have := (hk c (by omega) hcl').1 (hed c h2); omega
      · omega
    refine wpOp_mono ?_ (step i σ w' hlt hRw (fun j hj => hf j (by
      have h := hed j hj
      rcases Nat.lt_or_ge j listed.size with h' | h'
      · exact hs ▸ h'
      · simp [Array.getElem?_eq_none h'] at h) (hed j hj)) (fun hl => by rw [hrank hl]; exact hHk))
    rintro a'' w'' ⟨v, rfl, hR', hg, hHn, hHs, hnew⟩
    have hsz := hRs _ _ hR'
    have hsame : ∀ j x, j < ops.size → j ≠ i → dstOf ops j = some x → updo σ (dstOf ops i) v x = σ x := by
      intro j x hj hji hx
      cases hd : dstOf ops i with
      | none => rfl
      | some y =>
        simp only [updo, upd]
        rw [if_neg]
        rintro rfl
        rcases hap j hj i hlt with (h | h) | h
        · exact hji h
        · rw [h] at hx; cases hx
        · exact h (hx.trans hd.symm)
    have hnotH : ∀ c, c < ops.size → loud c = true → listed.getD c false = true → ∀ x, dstOf ops i = some x → x ∉ supH (rankOf loud c + 1) := by
      intro c hc hl hlc x hx hmem
      rcases (hok3 c hc).resolve_left (by simp [hl]) i hlt with (h | h) | h
      · subst h; exact getD_not_both hun hlc
      · exact getD_not_both hun (hcl c hlc i h)
      · exact h x hmem hx
    refine ⟨by simpa using hs, ?_, updo σ (dstOf ops i) v, if loud i then k + 1 else k, rfl, hR _ _ _ hRw hR', ?_, ?_, ?_, ?_, ?_, ?_⟩
    · intro j hj e he
      by_cases hji : i = j
      · subst hji; exact getD_set_true (hed e he)
      · rw [getD_set_ne false hji] at hj
        exact getD_set_true (hcl j hj e he)
    · intro j hjm hj
      by_cases hji : i = j
      · subst hji; exact hg
      · rw [getD_set_ne false hji] at hj
        have hnot : ∀ x, dstOf ops i = some x → x ∉ sup j := by
          intro x hx hmem
          rcases hok1 j hjm i hlt with (h1 | h1) | h1
          · exact hji h1
          · exact getD_not_both hun (hcl j hj i h1)
          · exact h1 x hmem hx
        rw [updo_map hnot]
        exact hG j _ _ _ hR' (hf j hjm hj)
    · intro j hj hl
      by_cases hji : i = j
      · subst hji
        rw [if_pos hl, hrank hl]
        simp [hs, hlt]
      · rw [getD_set_ne false hji, hk j hj hl]
        split
        · rename_i hli
          have h1 := hrank hli
          constructor
          · intro h; omega
          · intro h
            rcases Nat.lt_or_ge (rankOf loud j) k with h2 | h2
            · exact h2
            · exfalso
              have h3 : rankOf loud j = rankOf loud i := by omega
              rcases Nat.lt_or_gt_of_ne hji with h4 | h4
              · have := rank_lt h4 hli; omega
              · have := rank_lt h4 hl; omega
        · exact Iff.rfl
    · split
      · rename_i hl
        have h1 := hrank hl
        have := rank_lt (loud := loud) hlt hl
        omega
      · exact hkm
    · split
      · rename_i hl
        rw [← hrank hl]; exact hHn hl
      · rename_i hl
        have hl : loud i = false := by simpa using hl
        have hnot : ∀ x, dstOf ops i = some x → x ∉ supH k := by
          intro x hx
          rcases Nat.eq_zero_or_pos k with h0 | hp
          · subst h0
            intro hmem; exact hok4 i hlt x hmem hx
          · -- the loud one before
            have hex : ∃ c, c < ops.size ∧ loud c = true ∧ rankOf loud c = k - 1 := by
              obtain ⟨c, h1, h2, h3⟩ := rank_has (loud := loud) ops.size (k - 1) (by omega)
              exact ⟨c, h1, h2, h3⟩
            obtain ⟨c, h1, h2, h3⟩ := hex
            have := hnotH c h1 h2 ((hk c h1 h2).2 (by omega)) x hx
            rwa [show rankOf loud c + 1 = k by omega] at this
        rw [updo_map hnot]
        exact hH k _ _ _ (hHs hl) hHk
    · intro j x hjm hj hnj hx
      by_cases hji : i = j
      · subst hji
        obtain ⟨b, h1, h2, h3⟩ := hnew hnj
        exact ⟨b, by simpa [hx, updo, upd] using h1, h3⟩
      · rw [getD_set_ne false hji] at hj
        rw [hsame j x hjm (Ne.symm hji) hx]
        obtain ⟨b, h1, h2⟩ := hbl j x hjm hj hnj hx
        exact ⟨b, h1, by omega⟩
    · intro j l x y hjm hlm hjl hj hl hnj hnl hx hy
      by_cases hji : i = j
      · subst hji
        rw [getD_set_ne false hjl] at hl
        rw [hsame l y hlm (Ne.symm hjl) hy]
        obtain ⟨b, h1, h2⟩ := hbl l y hlm hl hnl hy
        obtain ⟨b', h1', h2', -⟩ := hnew hnj
        simp only [hx, updo, upd, if_true, h1, h1']
        intro h; simp at h; omega
      · by_cases hli : i = l
        · subst hli
          rw [getD_set_ne false hji] at hj
          rw [hsame j x hjm (Ne.symm hji) hx]
          obtain ⟨b, h1, h2⟩ := hbl j x hjm hj hnj hx
          obtain ⟨b', h1', h2', -⟩ := hnew hnl
          simp only [hy, updo, upd, if_true, h1, h1']
          intro h; simp at h; omega
        · rw [getD_set_ne false hji] at hj
          rw [getD_set_ne false hli] at hl
          rw [hsame j x hjm (Ne.symm hji) hx, hsame l y hlm (Ne.symm hli) hy]
          exact hne j l x y hjm hlm hjl hj hl hnj hnl hx hy
  · intro listed a w' hJ hnil
    obtain ⟨hs, hcl, σ, k, rfl, hRw, hf, hk, hkm, hHk, hbl, hne⟩ := hJ
    have hall := ready_nil hb hs hnil
    have hkk : k = rankOf loud ops.size := by
      rcases Nat.lt_or_ge k (rankOf loud ops.size) with h | h
      · exfalso
        obtain ⟨c, h1, h2, h3⟩ := rank_has (loud := loud) ops.size k h
        have := (hk c h1 h2).1 (hall c h1); omega
      · omega
    subst hkk
    exact fin σ w' hRw (fun j hj => hf j hj (hall j hj)) hHk (fun i j x y hi hj hij hni hnj => hne i j x y hi hj hij (hall i hi) (hall j hj) hni hnj)

/-- The frame of a phase's step, and what it owes. -/
structure PhCtx where
  R : World → World → Prop
  R1 : World → World → Prop
  G : Nat → List Value → World → Prop
  H : Nat → List Value → World → Prop
  sup : Nat → List Nat
  supH : Nat → List Nat
  loud : Nat → Bool
  nw : Nat → Bool

def PhStep (P : Program) (ops : Array Oper) (c : PhCtx) (ms : List Bool) (L : List Value) (d : List Deferred) (w : World) (i k : Nat) (o : Oper) : Prop :=
  ∀ (σ : Nat → Value) (w' : World), c.R w w' → (∀ j ∈ edgesOf ops i, c.G j ((c.sup j).map σ) w') → (c.loud i = true → c.H k ((c.supH k).map σ) w') →
    wpList P ops (fun e a'' w'' => e = .normal ∧ a''.defers = d ∧ c.R w' w'' ∧ c.G i ((c.sup i).map fun k => a''.tmps.getD k undef) w'' ∧
      (c.loud i = true → c.H (k + 1) ((c.supH (k + 1)).map fun k => a''.tmps.getD k undef) w'') ∧ (c.loud i = false → c.R1 w' w'') ∧
      (c.nw i = true → ∃ b, vblk (o.dst.elim undef (fun k => a''.tmps.getD k undef)) = some b ∧ w'.heap.size ≤ b ∧ b < w''.heap.size)) [o] { tmps := (fill σ ms 0 L).toArray, defers := d } w'
def PhSteps (P : Program) (ops : Array Oper) (c : PhCtx) (ms : List Bool) (L : List Value) (d : List Deferred) (w : World) : List Oper → Nat → Nat → Prop
  | [], _, _ => True
  | o :: r, i, k => PhStep P ops c ms L d w i k o ∧ PhSteps P ops c ms L d w r (i + 1) (if c.loud i then k + 1 else k)

theorem phSteps_get {c : PhCtx} {ms : List Bool} {L : List Value} {d : List Deferred} {w : World} :
    ∀ (l : List Oper) (i : Nat), PhSteps P ops c ms L d w l i (rankOf c.loud i) → ∀ j o, l[j]? = some o → PhStep P ops c ms L d w (i + j) (rankOf c.loud (i + j)) o := by
  intro l
  induction l with
  | nil => intro i _ j o h; simp at h
  | cons x l ih =>
    intro i h j o hj
    cases j with
    | zero => simp at hj; subst hj; exact h.1
    | succ j =>
      have e : (if c.loud i then rankOf c.loud i + 1 else rankOf c.loud i) = rankOf c.loud (i + 1) := by rw [rank_succ]; split <;> rfl
      have h2 := h.2
      rw [e] at h2
      have := ih (i + 1) h2 j o (by simpa using hj)
      rwa [show i + 1 + j = i + (j + 1) by omega] at this

def marks2Ok (ops : Array Oper) (ms : List Bool) (n : Nat) : Bool :=
  decide (ms.length = n) && (List.range ops.size).all fun i => ((dstOf ops i).map fun k => (ms[k]?).getD false).getD true

theorem wp_region_psteps {id : Nat} {l : List Oper} (c : PhCtx) (ms : List Bool) (hm : P.follows .mixedOrders = true) (L : List Value)
    (hb : edgesBack l.toArray = true) (hok : phasesOk l.toArray c.sup c.loud c.supH = true) (hms : marks2Ok l.toArray ms L.length = true)
    (hsup : (((List.range l.length).all fun i => (c.sup i).all fun k => decide (k < L.length) && (ms[k]?).getD false) &&
      (List.range (l.length + 1)).all fun i => (c.supH i).all fun k => decide (k < L.length) && (ms[k]?).getD false) = true)
    (d : List Deferred)
    (hR : ∀ a b e, c.R a b → c.R b e → c.R a e) (hR1 : ∀ a b, c.R1 a b → c.R a b) (hG : ∀ i l w w', c.R w w' → c.G i l w → c.G i l w') (hH : ∀ k l w w', c.R1 w w' → c.H k l w → c.H k l w')
    (hRs : ∀ a b, c.R a b → a.heap.size ≤ b.heap.size) (w : World) (hRd : c.R w.drew w.drew) (hH0 : c.H 0 ((c.supH 0).map fun k => L.getD k undef) w.drew)
    (steps : PhSteps P l.toArray c ms L d w.drew l 0 0)
    (fin : ∀ σ w', c.R w.drew w' → (∀ j, j < l.length → c.G j ((c.sup j).map σ) w') → c.H (rankOf c.loud l.length) ((c.supH (rankOf c.loud l.length)).map σ) w' →
      (∀ i j x y, i < l.length → j < l.length → i ≠ j → c.nw i = true → c.nw j = true → dstOf l.toArray i = some x → dstOf l.toArray j = some y → vblk (σ x) ≠ vblk (σ y)) → Q .normal { tmps := (fill σ ms 0 L).toArray, defers := d } w') :
    (Code.region id l.toArray true).wp P Q { tmps := L.toArray, defers := d } w := by
  have e : L = fill (fun k => L.getD k undef) ms 0 L := (fill_self _ _ _ _ (fun j v h => by simp [List.getD, h])).symm
  simp only [marks2Ok, Bool.and_eq_true, decide_eq_true_eq, List.all_eq_true, List.mem_range] at hms
  obtain ⟨hlen, hmk⟩ := hms
  simp only [Bool.and_eq_true, List.all_eq_true, List.mem_range, decide_eq_true_eq] at hsup
  obtain ⟨hsup, hsupH⟩ := hsup
  have fget : ∀ (σ : Nat → Value) (ms : List Bool) (k : Nat) (l : List Value) (j : Nat), j < l.length → ms[j]? = some true → (fill σ ms k l)[j]? = some (σ (k + j)) := by
    intro σ ms
    induction ms with
    | nil => intro k l j _ h; simp at h
    | cons m ms ih => intro k l j hj h; cases l with
      | nil => simp at hj
      | cons v r =>
        cases j with
        | zero => simp at h; subst h; simp [fill]
        | succ j => simp only [fill, List.getElem?_cons_succ]; rw [ih (k + 1) r j (by simpa using hj) (by simpa using h)]; congr 2; omega
  rw [show ({ tmps := L.toArray, defers := d } : Act) = { tmps := (fill (fun k => L.getD k undef) ms 0 L).toArray, defers := d } by rw [← e]]
  refine wp_region_phases (tmpl := fun σ => (fill σ ms 0 L).toArray) hm hb c.sup c.loud c.supH hok c.nw c.R c.R1 c.G c.H d hR hR1 hG hH hRs _ w hRd hH0 ?_ (by simpa using fin)
  intro i σ w' hil hRw hdeps hHi
  simp only [List.size_toArray] at hil
  have hget : l[i]? = some l[i] := List.getElem?_eq_getElem hil
  have hst := phSteps_get l 0 steps i l[i] hget
  rw [Nat.zero_add] at hst
  have hst := hst σ w' hRw hdeps hHi
  unfold wpOp
  have hga : l.toArray[i]? = some l[i] := by simp
  rw [hga]
  have hdo : dstOf l.toArray i = (l[i]).dst := by unfold dstOf; rw [hga]; rfl
  rw [hdo]
  -- the slots that a fact speaks of are read off the frame
  have hread : ∀ (σ' : Nat → Value) (s : List Nat), (∀ x ∈ s, x < L.length ∧ (ms[x]?).getD false = true) → s.map (fun k => ((fill σ' ms 0 L).toArray).getD k undef) = s.map σ' := by
    intro σ' s hx
    apply List.map_congr_left
    intro k hk
    obtain ⟨h1, h2⟩ := hx k hk
    have h3 : ms[k]? = some true := by
      cases hh : ms[k]? with
      | none => simp [hh] at h2
      | some b => simp [hh] at h2; rw [h2]
    have h4 := fget σ' ms 0 L k h1 h3
    simp only [Nat.zero_add] at h4
    simp [h4]
  have hput : ∀ v, ({ tmps := (fill σ ms 0 L).toArray, defers := d } : Act).put (l[i]).dst v = { tmps := (fill (updo σ (l[i]).dst v) ms 0 L).toArray, defers := d } := by
    intro v
    have hmki := hmk i (by simpa using hil)
    rw [hdo] at hmki
    cases hd : (l[i]).dst with
    | none => rfl
    | some dst =>
      rw [hd] at hmki
      simp only [Option.map_some, Option.getD_some] at hmki
      have hmark : ms[dst]? = some true := by
        cases hh : ms[dst]? with
        | none => simp [hh] at hmki
        | some b => simp [hh] at hmki; rw [hmki]
      have h1 := fill_set σ dst v ms 0 L (fun _ => by simpa using hmark)
      simp only [Nat.zero_le, if_true, Nat.sub_zero] at h1
      simp [Act.put, updo, ← h1]
  refine step_put (X := fun a'' w'' => a''.defers = d ∧ c.R w' w'' ∧ c.G i ((c.sup i).map fun k => a''.tmps.getD k undef) w'' ∧
      (c.loud i = true → c.H (rankOf c.loud i + 1) ((c.supH (rankOf c.loud i + 1)).map fun k => a''.tmps.getD k undef) w'') ∧ (c.loud i = false → c.R1 w' w'') ∧
      (c.nw i = true → ∃ b, vblk ((l[i]).dst.elim undef (fun k => a''.tmps.getD k undef)) = some b ∧ w'.heap.size ≤ b ∧ b < w''.heap.size)) (fun a'' w'' hx => hx.1) hst ?_
  intro v w'' hx
  rw [hput] at hx ⊢
  obtain ⟨-, hx1, hx2, hx3, hx4, hx5⟩ := hx
  refine ⟨v, rfl, hx1, ?_, ?_, hx4, ?_⟩
  · rw [hread _ _ (fun x hx => hsup i hil x hx)] at hx2; exact hx2
  · intro hl
    have h1 := hx3 hl
    have hr : rankOf c.loud i + 1 < l.length + 1 := by
      have : rankOf c.loud i ≤ i := by unfold rankOf; exact Nat.le_trans (List.length_filter_le _ _) (by simp)
      omega
    rw [hread _ _ (fun x hx => hsupH _ hr x hx)] at h1; exact h1
  · intro hn
    obtain ⟨b, h1, h2⟩ := hx5 hn
    have hmki := hmk i (by simpa using hil)
    rw [hdo] at hmki
    cases hd : (l[i]).dst with
    | none => rw [hd] at h1; simp [vblk, undef] at h1
    | some dst =>
      rw [hd] at h1 hmki
      simp only [Option.map_some, Option.getD_some] at hmki
      have hmark : ms[dst]? = some true := by
        cases hh : ms[dst]? with
        | none => simp [hh] at hmki
        | some b => simp [hh] at hmki; rw [hmki]
      have hdl : dst < L.length := Nat.lt_of_lt_of_eq (List.getElem?_eq_some_iff.1 hmark).1 hlen
      have h4 := fget (upd σ dst v) ms 0 L dst hdl hmark
      have h6 : upd σ dst v dst = v := by simp [upd]
      rw [Nat.zero_add, h6] at h4
      refine ⟨b, ?_, h2⟩
      simpa [updo, h4] using h1
end
end Go.Proofs.Ytbmejolmbfmdiaa
