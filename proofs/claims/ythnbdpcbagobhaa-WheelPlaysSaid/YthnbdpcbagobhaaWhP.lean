import Derived.Test.YthnbdpcbagobhaaMapP
namespace Go.Proofs.Ythnbdpcbagobhaa
open Go Go.Proofs.MapL

/-- An id and its time. -/
structure It where
  i : Int
  t : Int
deriving DecidableEq
/-- A time's spoke, of n, when the wheel has turned up to tu. -/
def kOf (tu n t : Int) : Int := max t tu % n
def whereL (tu n : Int) (X : List It) : List (Int × Int) := X.map fun x => (x.i, kOf tu n x.t)
def spokeL (tu n : Int) (j : Int) (X : List It) : List (Int × Int) := (X.filter fun x => decide (kOf tu n x.t = j)).map fun x => (x.i, x.t)
abbrev Ids (X : List It) : Prop := X.Pairwise fun a b => a.i ≠ b.i
def atI (X : List It) (id : Int) : Option It := X.find? fun x => decide (x.i = id)
def delI (X : List It) (id : Int) : List It := X.filter fun x => decide (x.i ≠ id)
theorem where_find (tu n : Int) (X : List It) (id : Int) : findL (whereL tu n X) id = (atI X id).map fun x => kOf tu n x.t := by
  unfold findL whereL atI
  rw [List.find?_map, Option.map_map]
  rfl
theorem ids_one {X : List It} (h : Ids X) {a b : It} (ha : a ∈ X) (hb : b ∈ X) (hq : a.i = b.i) : a = b := by
  induction X with
  | nil => cases ha
  | cons x L ih =>
    rw [Ids, List.pairwise_cons] at h
    rcases List.mem_cons.1 ha with rfl | ha' <;> rcases List.mem_cons.1 hb with rfl | hb'
    · rfl
    · exact absurd hq (h.1 _ hb')
    · exact absurd hq.symm (h.1 _ ha')
    · exact ih h.2 ha' hb'
theorem at_mem {X : List It} {id : Int} {x : It} (h : atI X id = some x) : x ∈ X ∧ x.i = id := ⟨List.mem_of_find?_eq_some h, by simpa using List.find?_some h⟩
theorem at_of {X : List It} (h : Ids X) {x : It} (hx : x ∈ X) : atI X x.i = some x := by
  cases hf : atI X x.i with
  | none => exact absurd (List.find?_eq_none.1 hf x hx) (by simp)
  | some y => obtain ⟨h1, h2⟩ := at_mem hf; rw [ids_one h h1 hx h2]
theorem spoke_find {tu n : Int} {X : List It} (h : Ids X) (j id : Int) : findL (spokeL tu n j X) id = (atI X id).bind fun x => if kOf tu n x.t = j then some x.t else none := by
  have hs : Ids (X.filter fun x => decide (kOf tu n x.t = j)) := h.filter _
  have e : findL (spokeL tu n j X) id = (atI (X.filter fun x => decide (kOf tu n x.t = j)) id).map (·.t) := by
    unfold findL spokeL atI
    rw [List.find?_map, Option.map_map]
    rfl
  rw [e]
  cases hX : atI X id with
  | none =>
    have : atI (X.filter fun x => decide (kOf tu n x.t = j)) id = none := List.find?_eq_none.2 fun y hy => List.find?_eq_none.1 hX y (List.mem_filter.1 hy).1
    rw [this]; rfl
  | some x =>
    obtain ⟨h1, h2⟩ := at_mem hX
    by_cases hk : kOf tu n x.t = j
    · have h3 := at_of hs (List.mem_filter.2 ⟨h1, by simpa using hk⟩)
      rw [h2] at h3
      rw [h3]; simp [hk]
    · have : atI (X.filter fun x => decide (kOf tu n x.t = j)) id = none := List.find?_eq_none.2 fun y hy => by
        intro hy2
        obtain ⟨h3, h4⟩ := List.mem_filter.1 hy
        have h5 := ids_one h h3 h1 ((by simpa using hy2 : y.i = id).trans h2.symm)
        subst h5
        exact hk (by simpa using h4)
      rw [this]; simp [hk]
theorem where_del (tu n : Int) (X : List It) (id : Int) : delL (whereL tu n X) id = whereL tu n (delI X id) := by
  unfold delL whereL delI
  rw [List.filter_map]; rfl
theorem spoke_del (tu n j : Int) (X : List It) (id : Int) : delL (spokeL tu n j X) id = spokeL tu n j (delI X id) := by
  unfold delL spokeL delI
  rw [List.filter_map, List.filter_filter, List.filter_filter]
  congr 1
  apply List.filter_congr
  intro x _
  simp [Bool.and_comm]
/-- A spoke that does not have the id is as it was. -/
theorem spoke_keep {tu n j : Int} {X : List It} (h : Ids X) {id : Int} {x : It} (hx : atI X id = some x) (hj : kOf tu n x.t ≠ j) : spokeL tu n j (delI X id) = spokeL tu n j X := by
  rw [← spoke_del]
  apply del_none
  rw [spoke_find h, hx]
  simp [hj]
theorem del_self (X : List It) (id : Int) : atI (delI X id) id = none := List.find?_eq_none.2 fun x hx => by simpa using (List.mem_filter.1 hx).2
theorem at_del {X : List It} {id o : Int} (h : o ≠ id) : atI (delI X id) o = atI X o := by
  unfold atI delI
  induction X with
  | nil => rfl
  | cons x X ih =>
    rw [List.filter_cons, List.find?_cons]
    by_cases hx : x.i = id
    · rw [if_neg (by simpa using hx), ih]
      have e : decide (x.i = o) = false := decide_eq_false (by omega)
      rw [e]
    · rw [if_pos (by simpa using hx), List.find?_cons]
      cases decide (x.i = o)
      · exact ih
      · rfl
theorem delI_none {X : List It} {id : Int} (h : atI X id = none) : delI X id = X := by
  unfold delI; rw [List.filter_eq_self]
  intro x hx
  simpa using List.find?_eq_none.1 h x hx
theorem spoke_add (tu n j : Int) (X : List It) (x : It) : spokeL tu n j (X ++ [x]) = if kOf tu n x.t = j then spokeL tu n j X ++ [(x.i, x.t)] else spokeL tu n j X := by
  unfold spokeL
  rw [List.filter_append, List.map_append]
  by_cases h : kOf tu n x.t = j <;> simp [h]
theorem where_add (tu n : Int) (X : List It) (x : It) : whereL tu n (X ++ [x]) = whereL tu n X ++ [(x.i, kOf tu n x.t)] := by simp [whereL]
theorem where_perm {tu n : Int} {X Y : List It} (h : X.Perm Y) : (whereL tu n X).Perm (whereL tu n Y) := h.map _
theorem spoke_perm {tu n j : Int} {X Y : List It} (h : X.Perm Y) : (spokeL tu n j X).Perm (spokeL tu n j Y) := (h.filter _).map _
theorem del_perm {X Y : List It} (h : X.Perm Y) (id : Int) : (delI X id).Perm (delI Y id) := h.filter _
/-- What turns with the time keeps its spoke, if it is behind it. -/
theorem spoke_turn {tu tu' n : Int} {X : List It} (h : ∀ x ∈ X, tu < x.t ∧ tu' < x.t ∨ tu = tu') (j : Int) : spokeL tu n j X = spokeL tu' n j X := by
  unfold spokeL
  congr 1
  apply List.filter_congr
  intro x hx
  have : kOf tu n x.t = kOf tu' n x.t := by
    unfold kOf
    rcases h x hx with h1 | h1
    · rw [Int.max_def, Int.max_def]; split <;> split <;> first | rfl | omega
    · rw [h1]
  rw [this]
theorem where_turn {tu tu' n : Int} {X : List It} (h : ∀ x ∈ X, tu < x.t ∧ tu' < x.t ∨ tu = tu') : whereL tu n X = whereL tu' n X := by
  unfold whereL
  apply List.map_congr_left
  intro x hx
  have : kOf tu n x.t = kOf tu' n x.t := by
    unfold kOf
    rcases h x hx with h1 | h1
    · rw [Int.max_def, Int.max_def]; split <;> split <;> first | rfl | omega
    · rw [h1]
  rw [this]
end Go.Proofs.Ythnbdpcbagobhaa
