import Derived.Test.YthnbdpcbagobhaaWhP
namespace Go.Proofs.Ythnbdpcbagobhaa
open Go Go.Proofs.MapL

def pairI (x : It) : Int × Int := (x.i, x.t)
def delP (X : List It) (q : Int × Int) : List It := delI X q.1
def tk (now : Int) (l : List (Int × Int)) : List (Int × Int) := l.filter fun q => decide (q.2 ≤ now)
/-- The spoke of a step, and what is taken in the first j steps. -/
def kk (tu n : Int) (j : Nat) : Int := (tu % n + j) % n
def Vis (tu n now : Int) (j : Nat) (x : It) : Bool := (List.range j).any (fun i => decide (kOf tu n x.t = kk tu n i)) && decide (x.t ≤ now)
theorem vis_next (tu n now : Int) (j : Nat) (x : It) : Vis tu n now (j + 1) x = (Vis tu n now j x || (decide (kOf tu n x.t = kk tu n j) && decide (x.t ≤ now))) := by
  unfold Vis
  rw [List.range_succ, List.any_append]
  simp only [List.any_cons, List.any_nil, Bool.or_false]
  cases (List.range j).any fun i => decide (kOf tu n x.t = kk tu n i) <;> cases decide (kOf tu n x.t = kk tu n j) <;> cases decide (x.t ≤ now) <;> rfl
theorem fold_delP (l : List (Int × Int)) : ∀ X : List It, l.foldl delP X = X.filter fun x => decide (x.i ∉ l.map (·.1)) := by
  induction l with
  | nil => intro X; exact (List.filter_eq_self.2 (by simp)).symm
  | cons q l ih =>
    intro X
    rw [List.foldl_cons, ih]
    unfold delP delI
    rw [List.filter_filter]
    apply List.filter_congr
    intro x _
    simp only [List.map_cons, List.mem_cons, not_or, Bool.decide_and]
    exact Bool.and_comm _ _
theorem tk_spoke (tu n j now : Int) (X : List It) : tk now (spokeL tu n j X) = (X.filter fun x => decide (kOf tu n x.t = j) && decide (x.t ≤ now)).map pairI := by
  unfold tk spokeL
  rw [List.filter_map, List.filter_filter]
  congr 1
  apply List.filter_congr
  intro x _
  simp [Function.comp, Bool.and_comm]
theorem take_step {X : List It} (h : Ids X) {c : It → Bool} {l : List (Int × Int)} (hl : l.Perm ((X.filter c).map pairI)) : l.foldl delP X = X.filter fun x => !c x := by
  rw [fold_delP]
  apply List.filter_congr
  intro x hx
  rw [Bool.eq_iff_iff, decide_eq_true_eq, Bool.not_eq_true']
  constructor
  · intro hn
    rw [Bool.eq_false_iff]
    intro hc
    apply hn
    exact List.mem_map.2 ⟨pairI x, hl.mem_iff.2 (List.mem_map.2 ⟨x, List.mem_filter.2 ⟨hx, hc⟩, rfl⟩), rfl⟩
  · intro hc hm
    obtain ⟨q, hq, e⟩ := List.mem_map.1 hm
    obtain ⟨y, hy, rfl⟩ := List.mem_map.1 (hl.mem_iff.1 hq)
    obtain ⟨h1, h2⟩ := List.mem_filter.1 hy
    have := ids_one h h1 hx e
    subst this
    rw [hc] at h2; cases h2
theorem filter_split {α : Type} (X : List α) (p q : α → Bool) : (X.filter p ++ (X.filter fun x => !p x).filter q).Perm (X.filter fun x => p x || q x) := by
  induction X with
  | nil => exact List.Perm.refl _
  | cons x X ih =>
    simp only [List.filter_cons]
    cases hp : p x with
    | true => simpa [hp] using ih
    | false =>
      cases hq : q x with
      | true =>
        simp only [hp, hq, Bool.not_false, if_true, Bool.false_or, Bool.false_eq_true, if_false, List.filter_cons]
        exact (List.perm_middle).trans (ih.cons x)
      | false => simpa [hp, hq] using ih
theorem step_all {X : List It} (h : Ids X) (tu n now : Int) (j : Nat) {l l' : List (Int × Int)} (hl : l.Perm ((X.filter (Vis tu n now j)).map pairI)) (hl' : l'.Perm (tk now (spokeL tu n (kk tu n j) (X.filter fun x => !Vis tu n now j x)))) :
    l'.foldl delP (X.filter fun x => !Vis tu n now j x) = (X.filter fun x => !Vis tu n now (j + 1) x) ∧ (l ++ l').Perm ((X.filter (Vis tu n now (j + 1))).map pairI) := by
  rw [tk_spoke] at hl'
  refine ⟨?_, ?_⟩
  · rw [take_step (h.filter _) hl', List.filter_filter]
    apply List.filter_congr
    intro x _
    rw [vis_next, Bool.not_or, Bool.and_comm]
  · refine (hl.append hl').trans ?_
    rw [← List.map_append]
    refine (filter_split X _ _).map _ |>.trans ?_
    rw [show (fun x => Vis tu n now j x || (decide (kOf tu n x.t = kk tu n j) && decide (x.t ≤ now))) = Vis tu n now (j + 1) from funext fun x => (vis_next tu n now j x).symm]
/-- How many steps there are. -/
def stepsI (tu n now : Int) : Int := if now < tu then n else min (now - tu) (n - 1) + 1
theorem steps_le {tu n now : Int} (hn : 1 ≤ n) : 1 ≤ stepsI tu n now ∧ stepsI tu n now ≤ n := by
  unfold stepsI; split
  · omega
  · rw [Int.min_def]; split <;> omega
theorem emod_le_self {a n : Int} (h : 0 ≤ a) (hn : 1 ≤ n) : a % n ≤ a := by
  obtain ⟨A, rfl⟩ := Int.eq_ofNat_of_zero_le h
  obtain ⟨B, rfl⟩ := Int.eq_ofNat_of_zero_le (show 0 ≤ n by omega)
  exact Int.ofNat_le.2 (Nat.mod_le A B)
theorem vis_all {tu n now : Int} (hn : 1 ≤ n) {x : It} {s : Nat} (hs : (s : Int) = stepsI tu n now) : Vis tu n now s x = decide (x.t ≤ now) := by
  unfold Vis
  by_cases hx : x.t ≤ now
  · rw [decide_eq_true hx, Bool.and_true, List.any_eq_true]
    have hM : tu ≤ max x.t tu ∧ (max x.t tu = x.t ∨ max x.t tu = tu) := by rw [Int.max_def]; split <;> omega
    unfold kOf kk
    generalize max x.t tu = M at hM ⊢
    have m1 := Int.emod_nonneg (M - tu) (b := n) (by omega)
    have m2 := Int.emod_lt_of_pos (M - tu) (b := n) (by omega)
    have m3 := emod_le_self (a := M - tu) (n := n) (by omega) hn
    obtain ⟨j, hj⟩ := Int.eq_ofNat_of_zero_le m1
    refine ⟨j, List.mem_range.2 ?_, ?_⟩
    · have : (j : Int) < stepsI tu n now := by
        unfold stepsI
        split
        · omega
        · rw [Int.min_def]
          split <;> omega
      omega
    · rw [decide_eq_true_eq, ← hj, ← Int.add_emod, show tu + (M - tu) = M by omega]
  · rw [decide_eq_false hx, Bool.and_false]
end Go.Proofs.Ythnbdpcbagobhaa
