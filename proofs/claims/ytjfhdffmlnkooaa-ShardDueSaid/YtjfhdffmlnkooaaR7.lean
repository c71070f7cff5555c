import Derived.Test.YtjfhdffmlnkooaaR6
namespace Go.Proofs.Ytjfhdffmlnkooaa
open Go Go.RowKit Go.Proofs.MapL PPM Go.Proofs.YtjfhdffmlnkooaaW.PrintWords

/-- Is a slot due? -/
def isDue (t : SS) (now : Int) (k : Nat) : Prop := ∃ a, t.l[k]? = some a ∧ a.used = true ∧ a.x.expire ≤ now
def expAt (t : SS) (k : Nat) : Int := ((t.l[k]?).map (·.x.expire)).getD 0
def better (t : SS) (now : Int) (b : Option Nat) (i : Nat) : Option Nat :=
  match t.l[i]? with
  | none => b
  | some a => if a.used && decide (a.x.expire ≤ now) then (match b with | none => some i | some k => if a.x.expire < expAt t k then some i else some k) else b
def bestTo (t : SS) (now : Int) : Nat → Option Nat
  | 0 => none
  | i + 1 => better t now (bestTo t now i) i
def Best (t : SS) (now : Int) (i : Nat) : Option Nat → Prop
  | none => ∀ j, j < i → ¬ isDue t now j
  | some k => k < i ∧ isDue t now k ∧ ∀ j, j < i → isDue t now j → expAt t k < expAt t j ∨ (expAt t k = expAt t j ∧ k ≤ j)
theorem best_to (t : SS) (now : Int) : ∀ i, i ≤ t.l.length → Best t now i (bestTo t now i) := by
  intro i
  induction i with
  | zero => intro _ j hj; omega
  | succ i ih =>
    intro hi
    have h := ih (by omega)
    have hg : t.l[i]? = some t.l[i] := List.getElem?_eq_getElem (by omega)
    obtain ⟨a, ha⟩ : ∃ a, t.l[i] = a := ⟨_, rfl⟩
    rw [ha] at hg
    have hexp : expAt t i = a.x.expire := by unfold expAt; rw [hg]; rfl
    have hdue : isDue t now i ↔ (a.used && decide (a.x.expire ≤ now)) = true := by
      unfold isDue
      rw [hg]
      constructor
      · rintro ⟨b, hb, h1, h2⟩; cases hb; simp [h1, h2]
      · intro h3; simp only [Bool.and_eq_true, decide_eq_true_eq] at h3; exact ⟨a, rfl, h3.1, h3.2⟩
    have e : bestTo t now (i + 1) = better t now (bestTo t now i) i := rfl
    rw [e]
    unfold better
    rw [hg]
    dsimp only
    by_cases hd : (a.used && decide (a.x.expire ≤ now)) = true
    · rw [if_pos hd]
      have hdi := hdue.2 hd
      cases hb : bestTo t now i with
      | none =>
        rw [hb] at h
        refine ⟨by omega, hdi, fun j hj hjd => ?_⟩
        rcases Nat.lt_or_ge j i with h1 | h1
        · exact absurd hjd (h j h1)
        · have : j = i := by omega
          subst this; exact .inr ⟨rfl, Nat.le_refl _⟩
      | some k =>
        rw [hb] at h
        obtain ⟨h1, h2, h3⟩ := h
        dsimp only
        split
        · rename_i hlt
          refine ⟨by omega, hdi, fun j hj hjd => ?_⟩
          rcases Nat.lt_or_ge j i with h4 | h4
          · rcases h3 j h4 hjd with h5 | h5
            · left; omega
            · left; omega
          · have : j = i := by omega
            subst this; exact .inr ⟨rfl, Nat.le_refl _⟩
        · rename_i hlt
          refine ⟨by omega, h2, fun j hj hjd => ?_⟩
          rcases Nat.lt_or_ge j i with h4 | h4
          · exact h3 j h4 hjd
          · have : j = i := by omega
            subst this
            rw [hexp]
            rcases Int.lt_or_eq_of_le (Int.not_lt.1 hlt) with h5 | h5
            · exact .inl h5
            · exact .inr ⟨h5, by omega⟩
    · rw [if_neg hd]
      have hnd : ¬ isDue t now i := fun h => hd (hdue.1 h)
      cases hb : bestTo t now i with
      | none =>
        rw [hb] at h
        intro j hj
        rcases Nat.lt_or_ge j i with h1 | h1
        · exact h j h1
        · have : j = i := by omega
          subst this; exact hnd
      | some k =>
        rw [hb] at h
        obtain ⟨h1, h2, h3⟩ := h
        refine ⟨by omega, h2, fun j hj hjd => ?_⟩
        rcases Nat.lt_or_ge j i with h4 | h4
        · exact h3 j h4 hjd
        · have : j = i := by omega
          subst this; exact absurd hjd hnd
theorem mem_dueK' {t : SS} {now : Int} {k : Nat} : k ∈ dueK t now ↔ isDue t now k := mem_dueK
theorem due_head {t : SS} {now : Int} {k : Nat} {ks : List Nat} (h : dueK t now = k :: ks) : isDue t now k ∧ ∀ j, isDue t now j → expAt t k < expAt t j ∨ (expAt t k = expAt t j ∧ k ≤ j) := by
  have hk : isDue t now k := mem_dueK'.1 (by rw [h]; simp)
  refine ⟨hk, fun j hj => ?_⟩
  have hjm : j ∈ dueK t now := mem_dueK'.2 hj
  have h0 := h
  unfold dueK at h hjm
  cases hd : dueP (itemsOf t) now with
  | nil => rw [hd] at h; simp at h
  | cons q qs =>
    rw [hd] at h hjm
    have hso := dueP_sorted (itemsOf t) now
    rw [hd] at hso
    have hq : q ∈ dueP (itemsOf t) now := by rw [hd]; simp
    obtain ⟨k1, a1, e1, -, rfl, -⟩ := mem_dueP.1 hq
    have hk1 : k1 = k := by simpa using (List.cons.inj h).1
    subst hk1
    have hx1 : expAt t k1 = a1.x.expire := by unfold expAt; rw [e1]; rfl
    obtain ⟨q2, hq2, e⟩ := List.mem_map.1 hjm
    have hq2' : q2 ∈ dueP (itemsOf t) now := by rw [hd]; exact hq2
    obtain ⟨j2, a2, e2, -, rfl, -⟩ := mem_dueP.1 hq2'
    have hj2 : j2 = j := by simpa using e
    subst hj2
    have hx2 : expAt t j2 = a2.x.expire := by unfold expAt; rw [e2]; rfl
    rw [hx1, hx2]
    rcases List.mem_cons.1 hq2 with h3 | h3
    · have h4 : (j2 : Int) = k1 := congrArg Prod.fst h3
      have h5 : a2.x.expire = a1.x.expire := congrArg Prod.snd h3
      exact .inr ⟨h5.symm, by omega⟩
    · have h4 := (List.pairwise_cons.1 hso).1 _ h3
      have h5 : ltT ((j2 : Int), a2.x.expire) ((k1 : Int), a1.x.expire) = false := by simpa using h4
      have h6 : ¬ (a2.x.expire < a1.x.expire ∨ (a2.x.expire = a1.x.expire ∧ (j2 : Int) < k1)) := fun hh => by rw [(ltT_iff _ _).2 hh] at h5; cases h5
      rcases Int.lt_or_eq_of_le (show a1.x.expire ≤ a2.x.expire by omega) with h7 | h7
      · exact .inl h7
      · exact .inr ⟨h7, by omega⟩
theorem best_head (t : SS) (now : Int) : bestTo t now t.l.length = (dueK t now).head? := by
  have hb := best_to t now t.l.length (Nat.le_refl _)
  have hlt : ∀ j, isDue t now j → j < t.l.length := fun j ⟨a, ha, _⟩ => (List.getElem?_eq_some_iff.1 ha).1
  cases hd : dueK t now with
  | nil =>
    cases hbt : bestTo t now t.l.length with
    | none => rfl
    | some k =>
      rw [hbt] at hb
      have := mem_dueK'.2 hb.2.1
      rw [hd] at this; cases this
  | cons k ks =>
    obtain ⟨h1, h2⟩ := due_head hd
    cases hbt : bestTo t now t.l.length with
    | none => rw [hbt] at hb; exact absurd h1 (hb k (hlt k h1))
    | some k' =>
      rw [hbt] at hb
      obtain ⟨h3, h4, h5⟩ := hb
      have h6 := h5 k (hlt k h1) h1
      have h7 := h2 k' h4
      have : k' = k := by omega
      rw [this]; rfl
theorem due_tail {t : SS} {now : Int} {k : Nat} {ks : List Nat} (h : dueK t now = k :: ks) : dueK (t.at k Sl.none) now = ks := by
  have h0 := h
  unfold dueK at h ⊢
  cases hd : dueP (itemsOf t) now with
  | nil => rw [hd] at h; simp at h
  | cons q qs =>
    rw [hd] at h
    have hq : q ∈ dueP (itemsOf t) now := by rw [hd]; simp
    obtain ⟨k1, a1, e1, -, rfl, -⟩ := mem_dueP.1 hq
    have hk1 : k1 = k := by simpa using (List.cons.inj h).1
    subst hk1
    have hks : qs.map (fun q => q.1.toNat) = ks := (List.cons.inj h).2
    rw [← hks]
    congr 1
    have hso := dueP_sorted (itemsOf t) now
    have hid := dueP_ids (items_ids t) now
    rw [hd] at hso hid
    have hlt := (List.getElem?_eq_some_iff.1 e1).1
    refine List.Perm.eq_of_pairwise (le := fun a b => (!ltT b a) = true) (fun a b _ _ h1 h2 => ?_) (dueP_sorted _ now) (List.pairwise_cons.1 hso).2 ?_
    · simp only [Bool.not_eq_true'] at h1 h2
      exact ltT_total h2 h1
    · refine (List.perm_ext_iff_of_nodup ((dueP_ids (items_ids _) now).imp fun h e => h (by rw [e])) ((List.pairwise_cons.1 hid).2.imp fun h e => h (by rw [e]))).2 fun x => ?_
      constructor
      · intro hx
        obtain ⟨j, b, hj, hu, rfl, hb⟩ := mem_dueP.1 hx
        rw [at_get] at hj
        by_cases hjk : j = k1
        · rw [if_pos hjk, if_pos hlt] at hj; cases hj; cases hu
        · rw [if_neg hjk] at hj
          have hm : ((j : Int), b.x.expire) ∈ dueP (itemsOf t) now := mem_dueP.2 ⟨j, b, hj, hu, rfl, hb⟩
          rw [hd] at hm
          rcases List.mem_cons.1 hm with h3 | h3
          · have h4 : (j : Int) = k1 := congrArg Prod.fst h3
            omega
          · exact h3
      · intro hx
        have hm : x ∈ dueP (itemsOf t) now := by rw [hd]; exact List.mem_cons_of_mem _ hx
        obtain ⟨j, b, hj, hu, rfl, hb⟩ := mem_dueP.1 hm
        have hne := (List.pairwise_cons.1 hid).1 _ hx
        have hjk : ¬ j = k1 := fun e => hne (by rw [e])
        exact mem_dueP.2 ⟨j, b, by rw [at_get, if_neg hjk]; exact hj, hu, rfl, hb⟩
theorem qAt_at {t : SS} {k j : Nat} (h : j ≠ k) : qAt (t.at k Sl.none) j = qAt t j := by unfold qAt; rw [at_get, if_neg h]
def optI : Option Nat → Int
  | none => -1
  | some k => k
end Go.Proofs.Ytjfhdffmlnkooaa
