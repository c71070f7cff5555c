import Derived.Test.YtogjfcmclfehkaaKA
import Derived.Test.YtogjfcmclfehkaaProg
namespace Go.Proofs.Ytogjfcmclfehkaa
open Go Go.Proofs.MapL

/-- An id and its time. -/
structure It where
  i : Int
  t : Int
deriving DecidableEq
/-- A time's spoke, of n, when the wheel has turned up to tu. -/
def kOf (tu n t : Int) : Int := max t tu % n
def whereL (tu n : Int) (X : List It) : List (Int × Int) := X.map fun x => (x.i, kOf tu n x.t)
def spokeL (tu n : Int) (j : Int) (X : List It) : List (Int × Int) := (X.filter fun x => decide (kOf tu n x.t = j)).map fun x => (x.i, x.t)
abbrev Ids (X : List It) : Prop := X.Pairwise fun a b => a.i ≠ b.i
def atI (X : List It) (id : Int) : Option It := X.find? fun x => decide (x.i = id)
def delI (X : List It) (id : Int) : List It := X.filter fun x => decide (x.i ≠ id)
theorem where_find (tu n : Int) (X : List It) (id : Int) : findL (whereL tu n X) id = (atI X id).map fun x => kOf tu n x.t := by
  unfold findL whereL atI
  rw [List.find?_map, Option.map_map]
  rfl
theorem ids_one {X : List It} (h : Ids X) {a b : It} (ha : a ∈ X) (hb : b ∈ X) (hq : a.i = b.i) : a = b := by
  induction X with
  | nil => cases ha
  | cons x L ih =>
    rw [Ids, List.pairwise_cons] at h
    rcases List.mem_cons.1 ha with rfl | ha' <;> rcases List.mem_cons.1 hb with rfl | hb'
    · rfl
    · exact absurd hq (h.1 _ hb')
    · exact absurd hq.symm (h.1 _ ha')
    · exact ih h.2 ha' hb'
theorem at_mem {X : List It} {id : Int} {x : It} (h : atI X id = some x) : x ∈ X ∧ x.i = id := ⟨List.mem_of_find?_eq_some h, by simpa using List.find?_some h⟩
theorem at_of {X : List It} (h : Ids X) {x : It} (hx : x ∈ X) : atI X x.i = some x := by
  cases hf : atI X x.i with
  | none => exact absurd (List.find?_eq_none.1 hf x hx) (by simp)
  | some y => obtain ⟨h1, h2⟩ := at_mem hf; rw [ids_one h h1 hx h2]
theorem spoke_find {tu n : Int} {X : List It} (h : Ids X) (j id : Int) : findL (spokeL tu n j X) id = (atI X id).bind fun x => if kOf tu n x.t = j then some x.t else none := by
  have hs : Ids (X.filter fun x => decide (kOf tu n x.t = j)) := h.filter _
  have e : findL (spokeL tu n j X) id = (atI (X.filter fun x => decide (kOf tu n x.t = j)) id).map (·.t) := by
    unfold findL spokeL atI
    rw [List.find?_map, Option.map_map]
    rfl
  rw [e]
  cases hX : atI X id with
  | none =>
    have : atI (X.filter fun x => decide (kOf tu n x.t = j)) id = none := List.find?_eq_none.2 fun y hy => List.find?_eq_none.1 hX y (List.mem_filter.1 hy).1
    rw [this]; rfl
  | some x =>
    obtain ⟨h1, h2⟩ := at_mem hX
    by_cases hk : kOf tu n x.t = j
    · have h3 := at_of hs (List.mem_filter.2 ⟨h1, by simpa using hk⟩)
      rw [h2] at h3
      rw [h3]; simp [hk]
    · have : atI (X.filter fun x => decide (kOf tu n x.t = j)) id = none := List.find?_eq_none.2 fun y hy => by
        intro hy2
        obtain ⟨h3, h4⟩ := List.mem_filter.1 hy
        have h5 := ids_one h h3 h1 ((by simpa using hy2 : y.i = id).trans h2.symm)
        subst h5
        exact hk (by simpa using h4)
      rw [this]; simp [hk]
theorem where_del (tu n : Int) (X : List It) (id : Int) : delL (whereL tu n X) id = whereL tu n (delI X id) := by
  unfold delL whereL delI
  rw [List.filter_map]; rfl
theorem spoke_del (tu n j : Int) (X : List It) (id : Int) : delL (spokeL tu n j X) id = spokeL tu n j (delI X id) := by
  unfold delL spokeL delI
  rw [List.filter_map, List.filter_filter, List.filter_filter]
  congr 1
  apply List.filter_congr
  intro x _
  simp [Bool.and_comm]
/-- A spoke that does not have the id is as it was. -/
theorem spoke_keep {tu n j : Int} {X : List It} (h : Ids X) {id : Int} {x : It} (hx : atI X id = some x) (hj : kOf tu n x.t ≠ j) : spokeL tu n j (delI X id) = spokeL tu n j X := by
  rw [← spoke_del]
  apply del_none
  rw [spoke_find h, hx]
  simp [hj]
theorem del_self (X : List It) (id : Int) : atI (delI X id) id = none := List.find?_eq_none.2 fun x hx => by simpa using (List.mem_filter.1 hx).2
theorem delI_none {X : List It} {id : Int} (h : atI X id = none) : delI X id = X := by
  unfold delI; rw [List.filter_eq_self]
  intro x hx
  simpa using List.find?_eq_none.1 h x hx
theorem spoke_add (tu n j : Int) (X : List It) (x : It) : spokeL tu n j (X ++ [x]) = if kOf tu n x.t = j then spokeL tu n j X ++ [(x.i, x.t)] else spokeL tu n j X := by
  unfold spokeL
  rw [List.filter_append, List.map_append]
  by_cases h : kOf tu n x.t = j <;> simp [h]
theorem where_add (tu n : Int) (X : List It) (x : It) : whereL tu n (X ++ [x]) = whereL tu n X ++ [(x.i, kOf tu n x.t)] := by simp [whereL]
theorem where_perm {tu n : Int} {X Y : List It} (h : X.Perm Y) : (whereL tu n X).Perm (whereL tu n Y) := h.map _
theorem spoke_perm {tu n j : Int} {X Y : List It} (h : X.Perm Y) : (spokeL tu n j X).Perm (spokeL tu n j Y) := (h.filter _).map _
/-- What turns with the time keeps its spoke, if it is behind it. -/
theorem spoke_turn {tu tu' n : Int} {X : List It} (h : ∀ x ∈ X, tu < x.t ∧ tu' < x.t ∨ tu = tu') (j : Int) : spokeL tu n j X = spokeL tu' n j X := by
  unfold spokeL
  congr 1
  apply List.filter_congr
  intro x hx
  have : kOf tu n x.t = kOf tu' n x.t := by
    unfold kOf
    rcases h x hx with h1 | h1
    · rw [Int.max_def, Int.max_def]; split <;> split <;> first | rfl | omega
    · rw [h1]
  rw [this]
theorem where_turn {tu tu' n : Int} {X : List It} (h : ∀ x ∈ X, tu < x.t ∧ tu' < x.t ∨ tu = tu') : whereL tu n X = whereL tu' n X := by
  unfold whereL
  apply List.map_congr_left
  intro x hx
  have : kOf tu n x.t = kOf tu' n x.t := by
    unfold kOf
    rcases h x hx with h1 | h1
    · rw [Int.max_def, Int.max_def]; split <;> split <;> first | rfl | omega
    · rw [h1]
  rw [this]
end Go.Proofs.Ytogjfcmclfehkaa
namespace Go.Proofs.Ytogjfcmclfehkaa
open Go Go.Proofs.MapL

def pairI (x : It) : Int × Int := (x.i, x.t)
def delP (X : List It) (q : Int × Int) : List It := delI X q.1
def tk (now : Int) (l : List (Int × Int)) : List (Int × Int) := l.filter fun q => decide (q.2 ≤ now)
/-- The spoke of a step, and what is taken in the first j steps. -/
def kk (tu n : Int) (j : Nat) : Int := (tu % n + j) % n
def Vis (tu n now : Int) (j : Nat) (x : It) : Bool := (List.range j).any (fun i => decide (kOf tu n x.t = kk tu n i)) && decide (x.t ≤ now)
theorem vis_next (tu n now : Int) (j : Nat) (x : It) : Vis tu n now (j + 1) x = (Vis tu n now j x || (decide (kOf tu n x.t = kk tu n j) && decide (x.t ≤ now))) := by
  unfold Vis
  rw [List.range_succ, List.any_append]
  simp only [List.any_cons, List.any_nil, Bool.or_false]
  cases (List.range j).any fun i => decide (kOf tu n x.t = kk tu n i) <;> cases decide (kOf tu n x.t = kk tu n j) <;> cases decide (x.t ≤ now) <;> rfl
theorem fold_delP (l : List (Int × Int)) : ∀ X : List It, l.foldl delP X = X.filter fun x => decide (x.i ∉ l.map (·.1)) := by
  induction l with
  | nil => intro X; exact (List.filter_eq_self.2 (by simp)).symm
  | cons q l ih =>
    intro X
    rw [List.foldl_cons, ih]
    unfold delP delI
    rw [List.filter_filter]
    apply List.filter_congr
    intro x _
    simp only [List.map_cons, List.mem_cons, not_or, Bool.decide_and]
    exact Bool.and_comm _ _
theorem tk_spoke (tu n j now : Int) (X : List It) : tk now (spokeL tu n j X) = (X.filter fun x => decide (kOf tu n x.t = j) && decide (x.t ≤ now)).map pairI := by
  unfold tk spokeL
  rw [List.filter_map, List.filter_filter]
  congr 1
  apply List.filter_congr
  intro x _
  simp [Function.comp, Bool.and_comm]
theorem take_step {X : List It} (h : Ids X) {c : It → Bool} {l : List (Int × Int)} (hl : l.Perm ((X.filter c).map pairI)) : l.foldl delP X = X.filter fun x => !c x := by
  rw [fold_delP]
  apply List.filter_congr
  intro x hx
  rw [Bool.eq_iff_iff, decide_eq_true_eq, Bool.not_eq_true']
  constructor
  · intro hn
    rw [Bool.eq_false_iff]
    intro hc
    apply hn
    exact List.mem_map.2 ⟨pairI x, hl.mem_iff.2 (List.mem_map.2 ⟨x, List.mem_filter.2 ⟨hx, hc⟩, rfl⟩), rfl⟩
  · intro hc hm
    obtain ⟨q, hq, e⟩ := List.mem_map.1 hm
    obtain ⟨y, hy, rfl⟩ := List.mem_map.1 (hl.mem_iff.1 hq)
    obtain ⟨h1, h2⟩ := List.mem_filter.1 hy
    have := ids_one h h1 hx e
    subst this
    rw [hc] at h2; cases h2
theorem filter_split {α : Type} (X : List α) (p q : α → Bool) : (X.filter p ++ (X.filter fun x => !p x).filter q).Perm (X.filter fun x => p x || q x) := by
  induction X with
  | nil => exact List.Perm.refl _
  | cons x X ih =>
    simp only [List.filter_cons]
    cases hp : p x with
    | true => simpa [hp] using ih
    | false =>
      cases hq : q x with
      | true =>
        simp only [hq, Bool.not_false, if_true, Bool.false_or, Bool.false_eq_true, if_false, List.filter_cons]
        exact (List.perm_middle).trans (ih.cons x)
      | false => simpa [hp, hq] using ih
theorem step_all {X : List It} (h : Ids X) (tu n now : Int) (j : Nat) {l l' : List (Int × Int)} (hl : l.Perm ((X.filter (Vis tu n now j)).map pairI)) (hl' : l'.Perm (tk now (spokeL tu n (kk tu n j) (X.filter fun x => !Vis tu n now j x)))) :
    l'.foldl delP (X.filter fun x => !Vis tu n now j x) = (X.filter fun x => !Vis tu n now (j + 1) x) ∧ (l ++ l').Perm ((X.filter (Vis tu n now (j + 1))).map pairI) := by
  rw [tk_spoke] at hl'
  refine ⟨?_, ?_⟩
  · rw [take_step (h.filter _) hl', List.filter_filter]
    apply List.filter_congr
    intro x _
    rw [vis_next, Bool.not_or, Bool.and_comm]
  · refine (hl.append hl').trans ?_
    rw [← List.map_append]
    refine (filter_split X _ _).map _ |>.trans ?_
    rw [show (fun x => Vis tu n now j x || (decide (kOf tu n x.t = kk tu n j) && decide (x.t ≤ now))) = Vis tu n now (j + 1) from funext fun x => (vis_next tu n now j x).symm]
/-- How many steps there are. -/
def stepsI (tu n now : Int) : Int := if now < tu then n else min (now - tu) (n - 1) + 1
theorem steps_le {tu n now : Int} (hn : 1 ≤ n) : 1 ≤ stepsI tu n now ∧ stepsI tu n now ≤ n := by
  unfold stepsI; split
  · omega
  · rw [Int.min_def]; split <;> omega
theorem emod_le_self {a n : Int} (h : 0 ≤ a) (hn : 1 ≤ n) : a % n ≤ a := by
  obtain ⟨A, rfl⟩ := Int.eq_ofNat_of_zero_le h
  obtain ⟨B, rfl⟩ := Int.eq_ofNat_of_zero_le (show 0 ≤ n by omega)
  exact Int.ofNat_le.2 (Nat.mod_le A B)
theorem vis_all {tu n now : Int} (hn : 1 ≤ n) {x : It} {s : Nat} (hs : (s : Int) = stepsI tu n now) : Vis tu n now s x = decide (x.t ≤ now) := by
  unfold Vis
  by_cases hx : x.t ≤ now
  · rw [decide_eq_true hx, Bool.and_true, List.any_eq_true]
    have hM : tu ≤ max x.t tu ∧ (max x.t tu = x.t ∨ max x.t tu = tu) := by rw [Int.max_def]; split <;> omega
    unfold kOf kk
    generalize max x.t tu = M at hM ⊢
    have m1 := Int.emod_nonneg (M - tu) (b := n) (by omega)
    have m2 := Int.emod_lt_of_pos (M - tu) (b := n) (by omega)
    have m3 := emod_le_self (a := M - tu) (n := n) (by omega) hn
    obtain ⟨j, hj⟩ := Int.eq_ofNat_of_zero_le m1
    refine ⟨j, List.mem_range.2 ?_, ?_⟩
    · have : (j : Int) < stepsI tu n now := by
        unfold stepsI
        split
        · omega
        · rw [Int.min_def]
          split <;> omega
      omega
    · rw [decide_eq_true_eq, ← hj, ← Int.add_emod, show tu + (M - tu) = M by omega]
  · rw [decide_eq_false hx, Bool.and_false]
end Go.Proofs.Ytogjfcmclfehkaa
namespace Go.Proofs.Ytogjfcmclfehkaa
open Go Go.RowKit Go.Proofs.MapL

abbrev IdOk (i : Int) : Prop := (Lit.int .i64 i).wf = true
abbrev TOk (t : Int) : Prop := 0 ≤ t ∧ t < 18446744073709551616
def eI (x : Int) : Lit := .int .i64 x
theorem eI_inj : Function.Injective eI := fun a b h => by unfold eI at h; simpa using h
theorem eI_lit (x : Int) : WideAt.IsKeyLit (eI x) := trivial
def vI (x : Int) : Value := .int .i64 x
def vU (x : Int) : Value := .int .u64 x
theorem kI : Maps.Keyed Try.prog 3 := Maps.int_keyed Try.underlying3
theorem key_i {x : Int} (h : IdOk x) : keyOf Try.prog 3 (.int .i64 x) = some (eI x) := Maps.keyOf_int_mk Try.underlying3 h
theorem zI (w : World) : (zeroValue 3).run Try.prog w = .ok (.int .i64 0) w := by kernel_rfl
theorem zU (w : World) : (zeroValue 35).run Try.prog w = .ok (.int .u64 0) w := by kernel_rfl
/-- Block p is a wheel: its row of spokes, block g; its map of places, block b; its spokes, blocks bs; turned up to tu; it has just these items. -/
structure WhAt (w : World) (p g b c : Nat) (bs : List Nat) (tu : Int) (X : List It) : Prop where
  blk : Blk w p 95 [.slice (some ⟨g, 0, none⟩) bs.length c, .int .u64 tu, .map (some b)]
  row : ∀ i (h : i < bs.length), w.cell? ⟨g, i, none⟩ = some (.map (some bs[i]))
  wh : mapIs eI vI Try.prog 3 w b (whereL tu bs.length X)
  sp : ∀ i (h : i < bs.length), mapIs eI vU Try.prog 3 w bs[i] (spokeL tu bs.length i X)
  nb : b ∉ bs
  nd : bs.Nodup
  n1 : 1 ≤ bs.length ∧ bs.length ≤ 256
  tu_ : TOk tu
  ids : Ids X
  ok : ∀ x ∈ X, IdOk x.i ∧ TOk x.t
section
variable {w w' : World} {p g b c : Nat} {bs : List Nat} {tu : Int} {X Y : List It} {S : List Nat}
theorem WhAt.glt (h : WhAt w p g b c bs tu X) : g < w.heap.size := by
  have h1 := h.row 0 h.n1.1
  rcases Nat.lt_or_ge g w.heap.size with h2 | h2
  · exact h2
  · simp [World.cell?, Array.getElem?_eq_none h2] at h1
theorem WhAt.fr (h : WhAt w p g b c bs tu X) (hf : Fr S w w') (hS : ∀ k ∈ p :: g :: b :: bs, k ∉ S) : WhAt w' p g b c bs tu X :=
  ⟨h.blk.fr hf (hS _ (by simp)), fun i hi => hf.cell (h.row i hi) (hS _ (by simp)), map_fr h.wh hf (hS _ (by simp)), fun i hi => map_fr (h.sp i hi) hf (hS _ (by simp)), h.nb, h.nd, h.n1, h.tu_, h.ids, h.ok⟩
theorem WhAt.fr0 (h : WhAt w p g b c bs tu X) (hf : Fr [] w w') : WhAt w' p g b c bs tu X := h.fr hf (by simp)
theorem WhAt.perm (h : WhAt w p g b c bs tu X) (hp : X.Perm Y) : WhAt w p g b c bs tu Y :=
  ⟨h.blk, h.row, h.wh.perm (where_perm hp), fun i hi => (h.sp i hi).perm (spoke_perm hp), h.nb, h.nd, h.n1, h.tu_, (hp.pairwise_iff (fun h => Ne.symm h)).1 h.ids, fun x hx => h.ok x (hp.mem_iff.2 hx)⟩
theorem kOf_lt (tu t : Int) {n : Nat} (hn : 1 ≤ n) : 0 ≤ kOf tu n t ∧ kOf tu n t < n := by
  unfold kOf; exact ⟨Int.emod_nonneg _ (by omega), Int.emod_lt_of_pos _ (by omega)⟩
theorem WhAt.len (_h : WhAt w p g b c bs tu X) : (whereL tu bs.length X).length = X.length := by simp [whereL]
theorem spoke_calls (h : WhAt w p g b c bs tu X) {t : Int} (ht : TOk t) : Calls Try.prog 66 #[.pointer (some ⟨p, 0, none⟩), .int .u64 t] w fun r w' => r = .returned (.int .i64 (t % bs.length)) ∧ w' = w := by
  obtain ⟨h1, h2, h3, -⟩ := h.blk.cells3
  have hn := h.n1
  have m1 := Int.emod_nonneg t (b := bs.length) (by omega)
  have m2 := Int.emod_lt_of_pos t (b := bs.length) (by omega)
  clear h h3 h2
  generalize bs.length = n at h1 hn m1 m2 ⊢
  go_enter Try.func66, Try.ntmps66
  go_wp2
  go_ret
  exact ⟨by go_num, rfl⟩
def atV (X : List It) (id : Int) : Value := .tuple #[.int .u64 (((atI X id).map (·.t)).getD 0), .bool (atI X id).isSome]
theorem at_calls (h : WhAt w p g b c bs tu X) {id : Int} (hid : IdOk id) : Calls Try.prog 67 #[.pointer (some ⟨p, 0, none⟩), .int .i64 id] w fun r w' => r = .returned (atV X id) ∧ w' = w := by
  obtain ⟨h1, h2, h3, -⟩ := h.blk.cells3
  have hl := h.wh.look_ok kI Try.underlying92 (zI w) (key_i hid)
  rw [where_find] at hl
  obtain ⟨n, hn_⟩ : ∃ n, bs.length = n := ⟨_, rfl⟩
  have hn := h.n1
  unfold atV
  cases hX : atI X id with
  | none =>
    have hr := h.row 0 (by omega)
    have hm := (h.sp 0 (by omega)).look kI Try.underlying96 (zU w) (key_i hid)
    rw [spoke_find h.ids, hX] at hm
    rw [hX] at hl
    obtain ⟨bk, hbk⟩ : ∃ bk, bs[0] = bk := ⟨_, rfl⟩
    rw [hbk] at hr hm
    rw [hn_] at h1 hn
    clear h
    simp only [Option.map_none, Option.bind_none, Option.getD_none, Option.isSome_none] at hl hm ⊢
    go_enter Try.func67, Try.ntmps67
    go_wp2
    go_ret2
    exact ⟨rfl, rfl⟩
  | some x =>
    have hk := kOf_lt tu x.t (n := bs.length) hn.1
    obtain ⟨k, hke⟩ := Int.eq_ofNat_of_zero_le hk.1
    have hkl : k < bs.length := by omega
    have hr := h.row k hkl
    have hm := (h.sp k hkl).look kI Try.underlying96 (zU w) (key_i hid)
    rw [spoke_find h.ids, hX] at hm
    rw [hX] at hl
    obtain ⟨bk, hbk⟩ : ∃ bk, bs[k] = bk := ⟨_, rfl⟩
    simp only [Option.map_some, Option.bind_some, Option.getD_some, Option.isSome_some, hke, if_true, vI, vU] at hl hm ⊢
    rw [hbk] at hr hm
    rw [hn_] at h1 hkl
    clear h hk hke
    go_enter Try.func67, Try.ntmps67
    go_wp2
    go_ret2
    exact ⟨rfl, rfl⟩
end
end Go.Proofs.Ytogjfcmclfehkaa
namespace Go.Proofs.Ytogjfcmclfehkaa
open Go Go.RowKit Go.Proofs.MapL

theorem nodup_at {l : List Nat} (h : l.Nodup) {i j : Nat} (hi : i < l.length) (hj : j < l.length) (e : l[i] = l[j]) : i = j := by
  have hp := List.pairwise_iff_getElem.1 h
  rcases Nat.lt_trichotomy i j with h1 | h1 | h1
  · exact absurd e (hp i j hi hj h1)
  · exact h1
  · exact absurd e.symm (hp j i hj hi h1)
section
variable {w w' : World} {p g b c : Nat} {bs : List Nat} {tu : Int} {X Y : List It} {S : List Nat}
theorem WhAt.pne (h : WhAt w p g b c bs tu X) {k : Nat} (hk : k < bs.length) : p ≠ bs[k] ∧ g ≠ bs[k] ∧ b ≠ bs[k] ∧ p ≠ b ∧ g ≠ b :=
  ⟨fun e => map_ne (h.sp k hk) h.blk e.symm, fun e => map_ne_cell (h.sp k hk) (h.row 0 (by omega)) e.symm, fun e => h.nb (by rw [e]; exact List.getElem_mem hk), fun e => map_ne h.wh h.blk e.symm, fun e => map_ne_cell h.wh (h.row 0 (by omega)) e.symm⟩
theorem WhAt.deleted (h : WhAt w p g b c bs tu X) {id : Int} {x : It} (hx : atI X id = some x) {k : Nat} (hk : k < bs.length) (hke : kOf tu bs.length x.t = k) {w3 w5 : World}
    (h3 : mapIs eI vU Try.prog 3 w3 bs[k] (delL (spokeL tu bs.length k X) id)) (f3 : Fr [bs[k]] w w3) (h5 : mapIs eI vI Try.prog 3 w5 b (delL (whereL tu bs.length X) id)) (f5 : Fr [b] w3 w5) :
    WhAt w5 p g b c bs tu (delI X id) ∧ Fr (b :: bs) w w5 := by
  obtain ⟨n1, n2, n3, n4, n5⟩ := h.pne hk
  have hF : Fr (b :: bs) w w5 := (f3.mono (by simp)).trans (f5.mono (by simp))
  have hF2 : Fr [bs[k], b] w w5 := (f3.mono (by simp)).trans (f5.mono (by simp))
  refine ⟨⟨h.blk.fr hF2 (by simp; exact ⟨n1, n4⟩), fun i hi => hF2.cell (h.row i hi) (by simp; exact ⟨n2, n5⟩), by rw [← where_del]; exact h5, fun i hi => ?_, h.nb, h.nd, h.n1, h.tu_, h.ids.filter _, fun y hy => h.ok y (List.mem_filter.1 hy).1⟩, hF⟩
  by_cases hik : i = k
  · subst hik
    rw [← spoke_del]
    exact map_fr h3 f5 (by simp; exact Ne.symm n3)
  · rw [spoke_keep h.ids hx (by rw [hke]; omega)]
    refine map_fr (h.sp i hi) hF2 ?_
    simp only [List.mem_cons, List.not_mem_nil, or_false, not_or]
    exact ⟨fun e => hik (nodup_at h.nd hi hk e), fun e => h.nb (by rw [← e]; exact List.getElem_mem hi)⟩
theorem WhAt.added (h : WhAt w p g b c bs tu X) {id t : Int} (hx : atI X id = none) (hid : IdOk id) (ht : TOk t) {k : Nat} (hk : k < bs.length) (hke : kOf tu bs.length t = k) {w3 w5 : World}
    (h3 : mapIs eI vU Try.prog 3 w3 bs[k] (putL (spokeL tu bs.length k X) id t)) (f3 : Fr [bs[k]] w w3) (h5 : mapIs eI vI Try.prog 3 w5 b (putL (whereL tu bs.length X) id k)) (f5 : Fr [b] w3 w5) :
    WhAt w5 p g b c bs tu (X ++ [⟨id, t⟩]) ∧ Fr (b :: bs) w w5 := by
  obtain ⟨n1, n2, n3, n4, n5⟩ := h.pne hk
  have hF : Fr (b :: bs) w w5 := (f3.mono (by simp)).trans (f5.mono (by simp))
  have hF2 : Fr [bs[k], b] w w5 := (f3.mono (by simp)).trans (f5.mono (by simp))
  have hids : Ids (X ++ [⟨id, t⟩]) := by
    rw [Ids, List.pairwise_append]
    refine ⟨h.ids, List.pairwise_singleton _ _, fun a ha y hy => ?_⟩
    obtain rfl := List.mem_singleton.1 hy
    simpa using List.find?_eq_none.1 hx a ha
  refine ⟨⟨h.blk.fr hF2 (by simp; exact ⟨n1, n4⟩), fun i hi => hF2.cell (h.row i hi) (by simp; exact ⟨n2, n5⟩), ?_, fun i hi => ?_, h.nb, h.nd, h.n1, h.tu_, hids, fun y hy => ?_⟩, hF⟩
  · rw [put_new (by rw [where_find, hx]; rfl)] at h5
    rw [where_add]
    show mapIs _ _ _ _ _ _ (_ ++ [(id, kOf tu bs.length t)])
    rw [hke]; exact h5
  · rw [spoke_add]
    by_cases hik : i = k
    · subst hik
      rw [put_new (by rw [spoke_find h.ids, hx]; rfl)] at h3
      rw [if_pos hke]
      exact map_fr h3 f5 (by simp; exact Ne.symm n3)
    · rw [if_neg (by show ¬ kOf tu bs.length t = _; rw [hke]; omega)]
      refine map_fr (h.sp i hi) hF2 ?_
      simp only [List.mem_cons, List.not_mem_nil, or_false, not_or]
      exact ⟨fun e => hik (nodup_at h.nd hi hk e), fun e => h.nb (by rw [← e]; exact List.getElem_mem hi)⟩
  · rcases List.mem_append.1 hy with hy | hy
    · exact h.ok y hy
    · obtain rfl := List.mem_singleton.1 hy; exact ⟨hid, ht⟩
set_option maxRecDepth 100000 in
set_option maxHeartbeats 2000000 in
theorem del_calls (h : WhAt w p g b c bs tu X) {id : Int} (hid : IdOk id) : Calls Try.prog 64 #[.pointer (some ⟨p, 0, none⟩), .int .i64 id] w fun r w' => r = .returned (.bool (atI X id).isSome) ∧ WhAt w' p g b c bs tu (delI X id) ∧ Fr (b :: bs) w w' := by
  cases hX : atI X id with
  | none =>
    rw [delI_none hX]
    have hat := at_calls h hid
    unfold atV at hat
    rw [hX] at hat
    simp only [Option.map_none, Option.getD_none, Option.isSome_none] at hat ⊢
    have HAT := Hd.mk hat
    have HH := Hd.mk h
    clear hat h
    go_enter Try.func64, Try.ntmps64
    go_wp2_with fail
    refine HAT.out.mono ?_
    rintro r w1 ⟨rfl, rfl⟩
    go_wp2
    go_ret
    exact ⟨rfl, HH.out, Fr.refl _ _⟩
  | some x =>
    have hat := at_calls h hid
    unfold atV at hat
    rw [hX] at hat
    simp only [Option.map_some, Option.getD_some, Option.isSome_some] at hat ⊢
    have hk := kOf_lt tu x.t (n := bs.length) h.n1.1
    obtain ⟨k, hke⟩ := Int.eq_ofNat_of_zero_le hk.1
    have hkl : k < bs.length := by omega
    obtain ⟨n1, n2, n3, n4, n5⟩ := h.pne hkl
    have HDL := Hd.mk (fun w3 w5 => h.deleted (w3 := w3) (w5 := w5) hX hkl hke)
    have HWF : Hd (findL (whereL tu bs.length X) id = some (k : Int)) := Hd.mk (by rw [where_find, hX]; simp [hke])
    have HB := Hd.mk h.blk
    have HW := Hd.mk h.wh
    have HSK := Hd.mk (h.sp k hkl)
    have HC := Hd.mk (h.row k hkl)
    have HAT := Hd.mk hat
    obtain ⟨bk, hbk⟩ : ∃ bk, bs[k] = bk := ⟨_, rfl⟩
    rw [hbk] at n1 n2 n3 HDL HSK HC
    obtain ⟨Ls, hLs⟩ : ∃ Ls, spokeL tu bs.length k X = Ls := ⟨_, rfl⟩
    rw [hLs] at HDL HSK
    obtain ⟨n, hn⟩ : ∃ n, bs.length = n := ⟨_, rfl⟩
    have HP : Hd (p ∉ [bk]) := Hd.mk (by simpa using n1)
    have HG : Hd (g ∉ [bk]) := Hd.mk (by simpa using n2)
    have HBB : Hd (b ∉ [bk]) := Hd.mk (by simpa using n3)
    rw [hn] at HDL HWF HB HW hkl
    clear hat h hX hk hke hLs hbk hn n1 n2 n3 n4 n5
    go_enter Try.func64, Try.ntmps64
    go_wp2_with fail
    refine HAT.out.mono ?_
    rintro r w1 ⟨rfl, rfl⟩
    go_wp2_with fail
    refine wp_region_gs { R := Fr [bk], R1 := Fr [], gs := [Is (.pointer (some ⟨p, 0, none⟩)), Is (.pointer (some ⟨p, 0, none⟩)), Is (.pointer (some ⟨p, 0, none⟩)), Is (.slice (some ⟨g, 0, none⟩) n c), Is (.pointer (some ⟨p, 0, none⟩)), Is (.pointer (some ⟨p, 0, none⟩)), Is (.pointer (some ⟨p, 2, none⟩)), Is (.map (some b)), Is (.int .i64 id), Is (.int .i64 k), Is (.pointer (some ⟨g, k, none⟩)), Is (.map (some bk)), Is (.int .i64 id), No], ds := [some 15, some 16, some 17, some 18, some 19, some 20, some 21, some 22, some 23, some 24, some 25, some 26, some 27, none], fl := [false, false, false, false, false, false, false, false, false, false, false, false, false, true], hs := [fun _ w2 => mapIs eI vU Try.prog 3 w2 bk Ls, fun _ w2 => mapIs eI vU Try.prog 3 w2 bk (delL Ls id)], hd := [[], []] } [false, false, false, false, false, false, false, false, false, false, false, false, false, false, false, true, true, true, true, true, true, true, true, true, true, true, true, true, false, false, false, false, false] (by kernel_rfl) _ (by kernel_rfl) (by kernel_rfl) (by kernel_rfl) (by kernel_rfl) rfl [] (fun _ _ _ h1 h2 => h1.trans h2) (fun _ _ h => h.mono (by simp)) (staI (staI (staI (staI (staI (staI (staI (staI (staI (staI (staI (staI (staI (staN sta0)))))))))))))) (sth (fun _ _ _ hf h => map_fr h hf (by simp)) (sth (fun _ _ _ hf h => map_fr h hf (by simp)) sth0)) (fun _ _ h => h.size) _ (Fr.refl _ _) HSK.out ?_ ?_
    · refine ⟨?_, ?_, ?_, ?_, ?_, ?_, ?_, ?_, ?_, ?_, ?_, ?_, ?_, ?_, trivial⟩
      · intro σ w' hR hd
        simp only [fill, Nat.reduceAdd, if_true, Bool.false_eq_true, if_false]
        clear hd
        go_wp2
        exact ⟨Fr.refl _ _, rfl⟩
      · intro σ w' hR hd
        simp only [fill, Nat.reduceAdd, if_true, Bool.false_eq_true, if_false]
        obtain h15 : σ 15 = _ := hd 0 (by decide)
        rw [h15]
        clear h15
        clear hd
        go_wp2
        exact ⟨Fr.refl _ _, rfl⟩
      · intro σ w' hR hd
        simp only [fill, Nat.reduceAdd, if_true, Bool.false_eq_true, if_false]
        obtain h16 : σ 16 = _ := hd 1 (by decide)
        rw [h16]
        clear h16
        clear hd
        go_wp2
        exact ⟨Fr.refl _ _, rfl⟩
      · intro σ w' hR hd
        simp only [fill, Nat.reduceAdd, if_true, Bool.false_eq_true, if_false]
        obtain h17 : σ 17 = _ := hd 2 (by decide)
        rw [h17]
        clear h17
        clear hd
        have hfr := (Fr.drew (Fr.refl [bk] _)).trans hR
        obtain ⟨c0, c1, c2, cf⟩ := (HB.out.fr hfr HP.out).cells3
        go_wp2
        exact ⟨Fr.refl _ _, rfl⟩
      · intro σ w' hR hd
        simp only [fill, Nat.reduceAdd, if_true, Bool.false_eq_true, if_false]
        clear hd
        go_wp2
        exact ⟨Fr.refl _ _, rfl⟩
      · intro σ w' hR hd
        simp only [fill, Nat.reduceAdd, if_true, Bool.false_eq_true, if_false]
        obtain h19 : σ 19 = _ := hd 4 (by decide)
        rw [h19]
        clear h19
        clear hd
        go_wp2
        exact ⟨Fr.refl _ _, rfl⟩
      · intro σ w' hR hd
        simp only [fill, Nat.reduceAdd, if_true, Bool.false_eq_true, if_false]
        obtain h20 : σ 20 = _ := hd 5 (by decide)
        rw [h20]
        clear h20
        clear hd
        go_wp2
        exact ⟨Fr.refl _ _, rfl⟩
      · intro σ w' hR hd
        simp only [fill, Nat.reduceAdd, if_true, Bool.false_eq_true, if_false]
        obtain h21 : σ 21 = _ := hd 6 (by decide)
        rw [h21]
        clear h21
        clear hd
        have hfr := (Fr.drew (Fr.refl [bk] _)).trans hR
        obtain ⟨c0, c1, c2, cf⟩ := (HB.out.fr hfr HP.out).cells3
        go_wp2
        exact ⟨Fr.refl _ _, rfl⟩
      · intro σ w' hR hd
        simp only [fill, Nat.reduceAdd, if_true, Bool.false_eq_true, if_false]
        clear hd
        go_wp2
        exact ⟨Fr.refl _ _, rfl⟩
      · intro σ w' hR hd
        simp only [fill, Nat.reduceAdd, if_true, Bool.false_eq_true, if_false]
        obtain h22 : σ 22 = _ := hd 7 (by decide)
        obtain h23 : σ 23 = _ := hd 8 (by decide)
        rw [h22, h23]
        clear h22 h23
        clear hd
        have hfr := (Fr.drew (Fr.refl [bk] _)).trans hR
        have hl := (map_fr HW.out hfr HBB.out).look kI Try.underlying92 (zI w') (key_i hid)
        rw [HWF.out] at hl
        simp only [vI, Option.map_some, Option.getD_some] at hl
        go_wp2
        exact ⟨Fr.refl _ _, rfl⟩
      · intro σ w' hR hd
        simp only [fill, Nat.reduceAdd, if_true, Bool.false_eq_true, if_false]
        obtain h18 : σ 18 = _ := hd 3 (by decide)
        obtain h24 : σ 24 = _ := hd 9 (by decide)
        rw [h18, h24]
        clear h18 h24
        clear hd
        go_wp2
        exact ⟨Fr.refl _ _, rfl⟩
      · intro σ w' hR hd
        simp only [fill, Nat.reduceAdd, if_true, Bool.false_eq_true, if_false]
        obtain h25 : σ 25 = _ := hd 10 (by decide)
        rw [h25]
        clear h25
        clear hd
        have hfr := (Fr.drew (Fr.refl [bk] _)).trans hR
        have c0 := hfr.cell HC.out HG.out
        go_wp2
        exact ⟨Fr.refl _ _, rfl⟩
      · intro σ w' hR hd
        simp only [fill, Nat.reduceAdd, if_true, Bool.false_eq_true, if_false]
        clear hd
        go_wp2
        exact ⟨Fr.refl _ _, rfl⟩
      · intro σ w' hR hd hH
        simp only [fill, Nat.reduceAdd, if_true, Bool.false_eq_true, if_false]
        obtain h26 : σ 26 = _ := hd 11 (by decide)
        obtain h27 : σ 27 = _ := hd 12 (by decide)
        rw [h26, h27]
        clear h26 h27
        clear hd
        have hm5 : mapIs eI vU Try.prog 3 w' bk Ls := hH
        obtain ⟨w5, hrun, hm6, htn⟩ := hm5.drop eI_inj kI Try.underlying96 (key_i hid) 0
        clear hm5
        go_wp2
        exact ⟨Fr.turned htn, trivial, hm6⟩
    · intro σ w3 hR hG hH
      simp only [fill, Nat.reduceAdd, if_true, Bool.false_eq_true, if_false]
      clear hG
      have hf3 := (Fr.drew (Fr.refl [bk] _)).trans hR
      have h3 : mapIs eI vU Try.prog 3 w3 bk (delL Ls id) := hH
      have hw3 := map_fr HW.out hf3 HBB.out
      obtain ⟨w5, hrun, hm5, htn⟩ := hw3.drop eI_inj kI Try.underlying92 (key_i hid) 0
      obtain ⟨c0, c1, c2, cf⟩ := (HB.out.fr hf3 HP.out).cells3
      have HR := Hd.mk (HDL.out w3 w5 h3 hf3 hm5 (Fr.turned htn))
      clear hR hH hf3 h3 hw3 hm5 htn
      go_wp2
      go_ret
      exact ⟨rfl, HR.out⟩
end
end Go.Proofs.Ytogjfcmclfehkaa
namespace Go.Proofs.Ytogjfcmclfehkaa
open Go Go.RowKit Go.Proofs.MapL

section
variable {w w' : World} {p g b c : Nat} {bs : List Nat} {tu : Int} {X Y : List It} {S : List Nat}
def setX (X : List It) (id t : Int) : List It := delI X id ++ [⟨id, t⟩]
set_option maxRecDepth 100000 in
set_option maxHeartbeats 2000000 in
theorem set_calls (h : WhAt w p g b c bs tu X) {id t : Int} (hid : IdOk id) (ht : TOk t) (hX : X.length < 1000000) : Calls Try.prog 62 #[.pointer (some ⟨p, 0, none⟩), .int .i64 id, .int .u64 t] w fun r w' => r = .returned (.int .i64 0) ∧ WhAt w' p g b c bs tu (setX X id t) ∧ Fr (b :: bs) w w' := by
  have hde := del_calls h hid
  have HDE := Hd.mk hde
  have hn1 := h.n1
  have ht0 := h.tu_
  clear hde h
  go_enter Try.func62, Try.ntmps62
  go_wp2_with fail
  refine HDE.out.mono ?_
  rintro r w1 ⟨rfl, h1, f1⟩
  clear HDE
  rcases Int.lt_or_le t tu with hlt | hle
  · have hk : kOf tu bs.length t = tu % bs.length := by unfold kOf; rw [Int.max_def]; split <;> first | rfl | (congr 1; omega) | omega
    have hk2 := kOf_lt tu t (n := bs.length) hn1.1
    obtain ⟨k, hke⟩ := Int.eq_ofNat_of_zero_le hk2.1
    have hkl : k < bs.length := by omega
    have hsp := spoke_calls h1 (t := tu) ht0
    rw [← hk, hke] at hsp
    obtain ⟨n1, n2, n3, n4, n5⟩ := h1.pne hkl
    have hdl : (delI X id).length < 1000000 := Nat.lt_of_le_of_lt (List.length_filter_le _ _) hX
    have hsl : (spokeL tu bs.length k (delI X id)).length < maxLen := by
      unfold spokeL; rw [List.length_map]
      exact Nat.lt_of_le_of_lt (List.length_filter_le _ _) (by unfold maxLen; omega)
    have hwl : (whereL tu bs.length (delI X id)).length < maxLen := by unfold whereL; rw [List.length_map]; unfold maxLen; omega
    obtain ⟨w3, hrun3, hm3, htn3⟩ := (h1.sp k hkl).update eI_inj kI Try.underlying96 hsl (key_i hid) (eI_lit id) t
    have f3 := Fr.turned htn3
    obtain ⟨w5, hrun5, hm5, htn5⟩ := (map_fr h1.wh f3 (by simpa using n3)).update eI_inj kI Try.underlying92 hwl (key_i hid) (eI_lit id) k
    have hR := h1.added (del_self X id) hid ht hkl hke hm3 f3 hm5 (Fr.turned htn5)
    have HR := Hd.mk (show WhAt w5 p g b c bs tu (setX X id t) ∧ Fr (b :: bs) w w5 from ⟨hR.1, f1.trans hR.2⟩)
    obtain ⟨d0, d1, d2, df⟩ := h1.blk.cells3
    have r0 := h1.row k hkl
    obtain ⟨e0, e1, e2, ef⟩ := (h1.blk.fr f3 (by simpa using n1)).cells3
    unfold vU at hrun3
    unfold vI at hrun5
    have HSP := Hd.mk hsp
    clear h1 f1 hm3 hm5 hR htn3 htn5 f3 hsl hwl hk hke hk2 hsp hdl n1 n2 n3 n4 n5 hid ht ht0 hn1 hX
    generalize bs[k] = bk at r0 hrun3
    generalize bs.length = n at d0 e0 hkl
    go_wp2_with fail
    refine HSP.out.mono ?_
    rintro r w2 ⟨rfl, rfl⟩
    go_wp2
    go_ret
    exact ⟨rfl, HR.out⟩
  · have hk : kOf tu bs.length t = t % bs.length := by unfold kOf; rw [Int.max_def]; split <;> first | rfl | (congr 1; omega) | omega
    have hk2 := kOf_lt tu t (n := bs.length) hn1.1
    obtain ⟨k, hke⟩ := Int.eq_ofNat_of_zero_le hk2.1
    have hkl : k < bs.length := by omega
    have hsp := spoke_calls h1 (t := t) ht
    rw [← hk, hke] at hsp
    obtain ⟨n1, n2, n3, n4, n5⟩ := h1.pne hkl
    have hdl : (delI X id).length < 1000000 := Nat.lt_of_le_of_lt (List.length_filter_le _ _) hX
    have hsl : (spokeL tu bs.length k (delI X id)).length < maxLen := by
      unfold spokeL; rw [List.length_map]
      exact Nat.lt_of_le_of_lt (List.length_filter_le _ _) (by unfold maxLen; omega)
    have hwl : (whereL tu bs.length (delI X id)).length < maxLen := by unfold whereL; rw [List.length_map]; unfold maxLen; omega
    obtain ⟨w3, hrun3, hm3, htn3⟩ := (h1.sp k hkl).update eI_inj kI Try.underlying96 hsl (key_i hid) (eI_lit id) t
    have f3 := Fr.turned htn3
    obtain ⟨w5, hrun5, hm5, htn5⟩ := (map_fr h1.wh f3 (by simpa using n3)).update eI_inj kI Try.underlying92 hwl (key_i hid) (eI_lit id) k
    have hR := h1.added (del_self X id) hid ht hkl hke hm3 f3 hm5 (Fr.turned htn5)
    have HR := Hd.mk (show WhAt w5 p g b c bs tu (setX X id t) ∧ Fr (b :: bs) w w5 from ⟨hR.1, f1.trans hR.2⟩)
    obtain ⟨d0, d1, d2, df⟩ := h1.blk.cells3
    have r0 := h1.row k hkl
    obtain ⟨e0, e1, e2, ef⟩ := (h1.blk.fr f3 (by simpa using n1)).cells3
    unfold vU at hrun3
    unfold vI at hrun5
    have HSP := Hd.mk hsp
    clear h1 f1 hm3 hm5 hR htn3 htn5 f3 hsl hwl hk hke hk2 hsp hdl n1 n2 n3 n4 n5 hid ht ht0 hn1 hX
    generalize bs[k] = bk at r0 hrun3
    generalize bs.length = n at d0 e0 hkl
    go_wp2_with fail
    refine HSP.out.mono ?_
    rintro r w2 ⟨rfl, rfl⟩
    go_wp2
    go_ret
    exact ⟨rfl, HR.out⟩
end
end Go.Proofs.Ytogjfcmclfehkaa
