import Derived.Test.YtenilmcndapaeaaQ6
namespace Go.Proofs.Ytenilmcndapaeaa
open Go.RowKit

/-- The queue j deeds on, nobody touched. -/
def ring (I : List Nat) (j : Nat) : Qu := (I.drop (j % I.length) ++ I.take (j % I.length)).map (·, false)
theorem ring_zero (I : List Nat) : ring I 0 = I.map (·, false) := by simp [ring]
theorem ring_step {s : SS} (hh : s.hand < s.l.length) {I : List Nat} (hI : 0 < I.length) {j : Nat} (hq : s.q = ring I j) :
    s.victim.2 = (I.getD (j % I.length) 0, true) ∧ s.victim.1.q = ring I (j + 1) := by
  have hr : j % I.length < I.length := Nat.mod_lt _ hI
  generalize hj : j % I.length = r at *
  have hd : I.drop r = I[r] :: I.drop (r + 1) := List.drop_eq_getElem_cons hr
  have hq' : s.q = (I[r] :: (I.drop (r + 1) ++ I.take r)).map (·, false) := by
    rw [hq]; unfold ring; rw [hj, hd, List.cons_append]
  obtain ⟨h1, h2⟩ := victim_clear hh hq'
  refine ⟨by rw [h1]; simp [List.getD, hr], ?_⟩
  rw [h2]
  unfold ring
  have hn : (j + 1) % I.length = if r + 1 = I.length then 0 else r + 1 := by
    rw [← Nat.mod_add_mod, hj]
    split
    · rename_i h; rw [h, Nat.mod_self]
    · rw [Nat.mod_eq_of_lt (by omega)]
  rw [hn]
  congr 1
  split
  · rename_i h
    rw [h]
    simp only [List.drop_length, List.nil_append, List.drop_zero, List.take_zero, List.append_nil]
    have := List.take_append_drop r I
    rw [hd, h, List.drop_length] at this
    exact this
  · rw [List.append_assoc]
    congr 1
    rw [List.take_add_one, List.getElem?_eq_getElem hr]; rfl

/-- Who was told. -/
def told (I : List Nat) (j : Nat) : List Nat := (List.range j).map fun x => I.getD (x % I.length) 0
theorem told_succ (I : List Nat) (j : Nat) : told I (j + 1) = told I j ++ [I.getD (j % I.length) 0] := by
  unfold told; rw [List.range_succ]; simp
theorem told_len (I : List Nat) (j : Nat) : (told I j).length = j := by simp [told]
theorem told_round (I : List Nat) : ∀ j, told I (I.length + j) = I ++ told I j := by
  intro j
  induction j with
  | zero =>
    simp only [Nat.add_zero]
    have h0 : told I 0 = [] := rfl
    rw [h0, List.append_nil]
    apply List.ext_getElem?
    intro x
    unfold told
    by_cases h : x < I.length
    · simp [h, Nat.mod_eq_of_lt h]
    · simp [h]
  | succ j ih =>
    rw [← Nat.add_assoc, told_succ, ih, told_succ, List.append_assoc]
    congr 4
    rw [Nat.add_mod_left]
theorem told_three {I : List Nat} (hn : I.Nodup) {a : Nat} (ha : a ∈ I) : (told I (3 * I.length)).count a = 3 := by
  have h1 : 3 * I.length = I.length + (I.length + (I.length + 0)) := by omega
  rw [h1, told_round, told_round, told_round]
  have h0 : told I 0 = [] := rfl
  simp [h0, List.count_append, List.Nodup.count hn, ha]

def seenC (T : List Nat) : List Value := (List.range 8).map fun v => .int .i64 (T.count v : Nat)
theorem seen_nil : seenC [] = List.replicate 8 (.int .i64 0) := by simp [seenC, List.range, List.range.loop, List.replicate]
theorem seen_get {T : List Nat} {v : Nat} (hv : v < 8) : (seenC T)[v]? = some (.int .i64 (T.count v : Nat)) := by simp [seenC, hv]
theorem seen_snoc {T : List Nat} {v : Nat} (hv : v < 8) : seenC (T ++ [v]) = (seenC T).set v (.int .i64 ((T.count v : Nat) + 1 : Int)) := by
  apply List.ext_getElem?
  intro i
  by_cases hi : i < 8
  · rw [seen_get hi, List.getElem?_set]
    by_cases e : v = i
    · subst e
      simp [seenC, hi, List.count_append]
    · rw [if_neg e, seen_get hi, List.count_append, List.count_singleton]
      have : (v == i) = false := beq_eq_false_iff_ne.2 e
      simp [this]
  · have h1 : (seenC (T ++ [v])).length = 8 := by simp [seenC]
    have h2 : ((seenC T).set v (.int .i64 ((T.count v : Nat) + 1 : Int))).length = 8 := by simp [seenC]
    rw [List.getElem?_eq_none (by omega), List.getElem?_eq_none (by omega)]

/-- Touched alone. -/
def Only (q : Qu) (i : Nat) : Prop := ∀ x ∈ q, x.2 = (x.1 == i)
def Weak (q : Qu) (i : Nat) : Prop := ∀ x ∈ q, x.1 ≠ i → x.2 = false

theorem q_touch {s : SS} {i : Nat} (hu : s.used i = true) : (s.touch i).q = s.q.map fun x => (x.1, x.2 || x.1 == i) := by
  obtain ⟨k, a, hk, hka, ha, hlt⟩ := SS.used_true hu
  obtain rfl : i = k := by omega
  have hl : (s.touch i).l.length = s.l.length := by unfold SS.touch; rw [if_pos hu]; simp [SS.at]
  have hhand : (s.touch i).hand = s.hand := by unfold SS.touch; rw [if_pos hu]; rfl
  have hat : ∀ x, (s.touch i).at? x = (s.at? x).map fun y => (y.1, y.2 || y.1 == i) := by
    intro x
    unfold SS.touch
    rw [if_pos hu]
    unfold SS.at? SS.at
    simp only [Int.toNat_natCast]
    by_cases e : i = x
    · subst e
      have e2 : s.l[i] = a := by rw [List.getElem?_eq_getElem hlt] at hka; simpa using hka
      simp [hlt, hka, ha, e2]
    · rw [List.getElem?_set_ne e]
      cases h : s.l[x]? with
      | none => simp
      | some b =>
        have : (x == i) = false := beq_eq_false_iff_ne.2 (Ne.symm e)
        cases hb : b.used <;> simp [hb, this]
  unfold SS.q
  rw [hl, hhand, List.map_filterMap]
  congr 1
  funext x
  exact hat x
theorem only_touch {s : SS} {i : Nat} (hu : s.used i = true) (hw : Weak s.q i) : Only (s.touch i).q i := by
  rw [q_touch hu]
  intro x hx
  obtain ⟨y, hy, rfl⟩ := List.mem_map.1 hx
  simp only
  by_cases e : y.1 = i
  · simp [e]
  · have h1 := hw y hy e
    have h2 : (y.1 == i) = false := beq_eq_false_iff_ne.2 e
    rw [h1, h2]; rfl
theorem only_victim {s : SS} {i : Nat} (hh : s.hand < s.l.length) (ho : Only s.q i) (h2 : 2 ≤ s.all.length) : s.victim.2.1 ≠ i ∧ Weak s.victim.1.q i := by
  have hp : 0 < s.all.length := by omega
  obtain ⟨r, h1, h3, h4⟩ := victim_queue hh hp
  have hnd := q_nodup hh
  have hql := q_len hh
  match hq : s.q with
  | [] => rw [hq] at hql; simp at hql; omega
  | [a] => rw [hq] at hql; simp at hql; omega
  | a :: b :: q =>
    rw [hq] at h1 h3 h4 hnd ho
    have ha := ho a (by simp)
    have hb := ho b (by simp)
    simp only [List.map_cons, List.nodup_cons, List.mem_cons, not_or] at hnd
    match r with
    | 0 =>
      rw [rotN] at h3
      simp only [List.head?_cons, Option.some.injEq] at h3
      have hne : a.1 ≠ i := by
        intro e; rw [h3] at ha; simp [h3] at e; subst e; simp at ha
      refine ⟨by rw [h3] at hne; exact hne, ?_⟩
      rw [h1]
      intro x hx hxi
      simp only [rotN, rot, List.cons_append, List.mem_cons, List.mem_append, List.not_mem_nil, or_false] at hx
      rcases hx with rfl | hx | rfl
      · rw [hb]; exact beq_eq_false_iff_ne.2 hxi
      · rw [ho x (by simp [hx])]; exact beq_eq_false_iff_ne.2 hxi
      · rfl
    | 1 =>
      obtain ⟨j, hj⟩ := h4 0 (by omega)
      rw [rotN] at hj
      simp only [List.head?_cons, Option.some.injEq] at hj
      have hai : a.1 = i := by rw [hj] at ha; simp at ha; rw [hj]; exact ha
      simp only [rotN, rot, List.cons_append, List.head?_cons, Option.some.injEq] at h3
      have hbi : b.1 ≠ i := fun e => hnd.1.1 (hai.trans e.symm)
      refine ⟨by rw [h3] at hbi; exact hbi, ?_⟩
      rw [h1]
      intro x hx hxi
      simp only [rotN, rot, List.cons_append, List.append_assoc, List.nil_append, List.mem_append, List.mem_cons, List.not_mem_nil, or_false] at hx
      rcases hx with hx | rfl | rfl
      · rw [ho x (by simp [hx])]; exact beq_eq_false_iff_ne.2 hxi
      · rfl
      · rfl
    | r + 2 =>
      exfalso
      obtain ⟨j, hj⟩ := h4 0 (by omega)
      rw [rotN] at hj
      simp only [List.head?_cons, Option.some.injEq] at hj
      have hai : a.1 = i := by rw [hj] at ha; simp at ha; rw [hj]; exact ha
      obtain ⟨j', hj'⟩ := h4 1 (by omega)
      simp only [rotN, rot, List.cons_append, List.head?_cons, Option.some.injEq] at hj'
      have hbi : b.1 = i := by rw [hj'] at hb; simp at hb; rw [hj']; exact hb
      exact hnd.1.1 (hai.trans hbi.symm)
end Go.Proofs.Ytenilmcndapaeaa
