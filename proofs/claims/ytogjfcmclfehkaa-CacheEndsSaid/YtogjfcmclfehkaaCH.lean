import Derived.Test.YtogjfcmclfehkaaC19
import Derived.Test.YtogjfcmclfehkaaC23
import Derived.Deep.CutBlock
import Derived.OpenShut
namespace Go.Proofs.Ytogjfcmclfehkaa
open Go Go.RowKit Go.Proofs.MapL PPM Go.Proofs.YtogjfcmclfehkaaW.PrintWords

/-! ### Jobs that step in turn come to their end -/
def d1 (b : Bool) : Nat := if b then 1 else 0
/-- A job behind some of its steps: it is behind s of its shards. -/
structure JobOk (n : Nat) (x : PS) (k : Nat) (j : PJ) : Prop where
  kd : 1 ≤ j.d.kind ∧ j.d.kind ≤ 4
  lt : ∀ i ∈ leftD j.d n, i < n
  ex : ∃ s, j.left = (leftD j.d n).drop s ∧ j.ev.map (·.1) = (leftD j.d n).take (s + d1 j.did)
  did : j.did = true → ∃ i r, j.left = i :: r ∧ x.who[i]? = some (some k)
structure PInv (n : Nat) (x : PS) : Prop where
  wl : x.who.length = n
  who : ∀ (m k : Nat), x.who[m]? = some (some k) → ∃ j r, x.js[k]? = some j ∧ j.left = m :: r
  job : ∀ (k : Nat) (j : PJ), x.js[k]? = some j → JobOk n x k j
  hist : x.hist.length = (x.js.map fun j => j.ev.length).sum
/-- Jobs that a shard has yet to see. -/
def cntM (x : PS) (m : Nat) : Nat := (x.js.map fun j => if m ∈ j.left then 1 else 0).sum
/-- How far the holder of a shard's lock is. -/
def farK (x : PS) (k : Nat) : Nat := match x.js[k]? with
  | some j => if j.did then 2 else 1
  | none => 0
def holdM (x : PS) (m : Nat) : Nat := match x.who[m]? with
  | some (some k) => farK x k
  | _ => 0
def unitM (x : PS) (m : Nat) : Nat := 3 * cntM x m - holdM x m
section
variable {n : Nat} {x : PS} {m k : Nat} {j : PJ}
theorem sum_set {l : List PJ} {f : PJ → Nat} {k : Nat} {j j' : PJ} (h : l[k]? = some j) : ((l.set k j').map f).sum + f j = (l.map f).sum + f j' := by
  induction l generalizing k with
  | nil => simp at h
  | cons a l ih =>
    cases k with
    | zero =>
      simp only [List.getElem?_cons_zero, Option.some.injEq] at h
      subst h
      simp only [List.set_cons_zero, List.map_cons, List.sum_cons]; omega
    | succ k =>
      simp only [List.getElem?_cons_succ] at h
      have := ih h
      simp only [List.set_cons_succ, List.map_cons, List.sum_cons]; omega
theorem sum_ge {l : List PJ} {f : PJ → Nat} {k : Nat} {j : PJ} (h : l[k]? = some j) : f j ≤ (l.map f).sum := by
  induction l generalizing k with
  | nil => simp at h
  | cons a l ih =>
    cases k with
    | zero =>
      simp only [List.getElem?_cons_zero, Option.some.injEq] at h
      subst h
      simp only [List.map_cons, List.sum_cons]; omega
    | succ k =>
      simp only [List.getElem?_cons_succ] at h
      have := ih h
      simp only [List.map_cons, List.sum_cons]; omega
theorem sum_mono {l : List PJ} {f g : PJ → Nat} (h : ∀ j ∈ l, f j ≤ g j) : (l.map f).sum ≤ (l.map g).sum := by
  induction l with
  | nil => exact Nat.le_refl _
  | cons a l ih =>
    have h1 := h a List.mem_cons_self
    have h2 := ih fun j hj => h j (List.mem_cons_of_mem _ hj)
    simp only [List.map_cons, List.sum_cons]; omega
theorem far_le (x : PS) (k : Nat) : farK x k ≤ 2 := by
  unfold farK
  split
  · split <;> omega
  · omega
theorem hold_le (x : PS) (m : Nat) : holdM x m ≤ 2 := by
  unfold holdM
  split
  · exact far_le x _
  · omega
theorem leftD_nd (d : Dd) (n : Nat) : (leftD d n).Nodup := by
  unfold leftD
  split
  · exact List.nodup_range
  · simp
theorem JobOk.nd (h : JobOk n x k j) : j.left.Nodup := by
  obtain ⟨s, h1, -⟩ := h.ex
  rw [h1]
  exact List.Nodup.sublist (List.drop_sublist _ _) (leftD_nd j.d n)
theorem JobOk.ltl (h : JobOk n x k j) : ∀ i ∈ j.left, i < n := by
  obtain ⟨s, h1, -⟩ := h.ex
  intro i hi
  rw [h1] at hi
  exact h.lt i (List.mem_of_mem_drop hi)
theorem cnt_pos (hj : x.js[k]? = some j) (hm : m ∈ j.left) : 1 ≤ cntM x m := by
  have := sum_ge (f := fun j => if m ∈ j.left then 1 else 0) hj
  simp only [if_pos hm] at this
  exact this
theorem hold_cnt (h : PInv n x) : holdM x m ≤ 3 * cntM x m := by
  have h2 := hold_le x m
  cases hw : x.who[m]? with
  | none => unfold holdM; rw [hw]; exact Nat.zero_le _
  | some o =>
    cases o with
    | none => unfold holdM; rw [hw]; exact Nat.zero_le _
    | some k =>
      obtain ⟨j, r, h3, h4⟩ := h.who m k hw
      have := cnt_pos (m := m) h3 (by rw [h4]; exact List.mem_cons_self)
      omega
theorem hold_eq {y : PS} (hw : y.who[m]? = x.who[m]?) (hj : ∀ k, x.who[m]? = some (some k) → y.js[k]? = x.js[k]?) : holdM y m = holdM x m := by
  unfold holdM
  rw [hw]
  split
  · rename_i k hk
    unfold farK
    rw [hj k hk]
  · rfl
/-- What one step makes of a shard's units. -/
structure Stp (n : Nat) (x y : PS) (k : Nat) : Prop where
  inv : PInv n y
  le : ∀ m, unitM y m ≤ unitM x m
  lt : ∀ (m : Nat) (j : PJ) (r : List Nat), x.js[k]? = some j → j.left = m :: r → (x.who[m]? = some none ∨ x.who[m]? = some (some k)) → unitM y m < unitM x m
  js : ∀ k', k' ≠ k → y.js[k']? = x.js[k']?
  who : ∀ (m : Nat), (∀ j r, x.js[k]? = some j → j.left ≠ m :: r) → y.who[m]? = x.who[m]?
  len : y.js.length = x.js.length
  stay : ∀ (m : Nat) (j : PJ) (r : List Nat) (k' : Nat), x.js[k]? = some j → j.left = m :: r → x.who[m]? = some (some k') → k' ≠ k → y = x
  dd : ∀ (k' : Nat) (j : PJ), x.js[k']? = some j → ∃ j', y.js[k']? = some j' ∧ j'.d = j.d
theorem Stp.same (h : PInv n x) (hn : ∀ (m : Nat) (j : PJ) (r : List Nat), x.js[k]? = some j → j.left = m :: r → ¬ (x.who[m]? = some none ∨ x.who[m]? = some (some k))) : Stp n x x k :=
  ⟨h, fun _ => Nat.le_refl _, fun m j r h1 h2 h3 => absurd h3 (hn m j r h1 h2), fun _ _ => rfl, fun _ _ => rfl, rfl, fun _ _ _ _ _ _ _ _ => rfl, fun k' j hj => ⟨j, hj, rfl⟩⟩
theorem take_snoc {l : List Nat} {s i : Nat} {r : List Nat} (h : l.drop s = i :: r) : l.take s ++ [i] = l.take (s + 1) ∧ l.drop (s + 1) = r := by
  have h1 : l[s]? = some i := by
    have := congrArg (fun l => l[0]?) h
    simpa using this
  constructor
  · rw [List.take_add_one, h1]; rfl
  · have := congrArg List.tail h
    rw [List.tail_drop] at this
    simpa using this
theorem step_stp (h : PInv n x) (k : Nat) : Stp n x (x.step k) k := by
  cases hj : x.js[k]? with
  | none =>
    have e : x.step k = x := by unfold PS.step; rw [hj]
    rw [e]
    exact Stp.same h fun m j r h1 => by rw [hj] at h1; cases h1
  | some j =>
    have hok := h.job k j hj
    cases hl : j.left with
    | nil =>
      rw [step_fin_eq hj hl]
      exact Stp.same h fun m j' r h1 h2 => by rw [hj] at h1; cases h1; rw [hl] at h2; cases h2
    | cons i r =>
      have hi : i < n := hok.ltl i (by rw [hl]; exact List.mem_cons_self)
      have hkl := (List.getElem?_eq_some_iff.1 hj).1
      have hnd := hok.nd
      rw [hl] at hnd
      have hir := (List.nodup_cons.1 hnd).1
      have hcl := hold_cnt (m := i) h
      cases hw : x.who[i]? with
      | none => rw [List.getElem?_eq_none_iff] at hw; have := h.wl; omega
      | some o =>
        cases o with
        | none =>
          have hd : j.did = false := by
            cases hd : j.did with
            | false => rfl
            | true =>
              obtain ⟨i', r', h1, h2⟩ := hok.did hd
              rw [hl] at h1; cases h1
              rw [hw] at h2; cases h2
          have e := step_lock_eq hj hl hw
          rw [e]
          have hil : i < x.who.length := by rw [h.wl]; exact hi
          have hws : (x.who.set i (some k))[i]? = some (some k) := List.getElem?_set_self hil
          have hcnt : ∀ m, cntM { x with who := x.who.set i (some k) } m = cntM x m := fun m => rfl
          have hh1 : holdM { x with who := x.who.set i (some k) } i = 1 := by
            unfold holdM
            show (match (x.who.set i (some k))[i]? with | some (some k) => farK _ k | _ => 0) = 1
            rw [hws]
            show farK _ k = 1
            unfold farK
            show (match x.js[k]? with | some j => if j.did = true then 2 else 1 | none => 0) = 1
            rw [hj]
            simp [hd]
          have hh0 : holdM x i = 0 := by unfold holdM; rw [hw]
          have hhm : ∀ m, m ≠ i → holdM { x with who := x.who.set i (some k) } m = holdM x m := fun m hm => hold_eq (List.getElem?_set_ne (Ne.symm hm)) (fun _ _ => rfl)
          have hc1 := cnt_pos (m := i) hj (by rw [hl]; exact List.mem_cons_self)
          have hun : ∀ m, unitM { x with who := x.who.set i (some k) } m + (if m = i then 1 else 0) = unitM x m := fun m => by
            unfold unitM
            rw [hcnt]
            by_cases hm : m = i
            · subst hm; rw [hh1, hh0, if_pos rfl]; omega
            · rw [hhm m hm, if_neg hm]; rfl
          refine ⟨⟨by show (x.who.set i (some k)).length = n; rw [List.length_set]; exact h.wl, fun m k' hm => ?_, fun k' j' hj' => ?_, h.hist⟩, fun m => by have := hun m; omega, fun m j' r' h1 h2 h3 => ?_, fun _ _ => rfl, fun m hm => ?_, rfl, fun m j' r' k' h1 h2 h3 h4 => ?_, fun k' j' h1 => ⟨j', h1, rfl⟩⟩
          · rcases get_set hm with ⟨rfl, e2⟩ | ⟨-, hm⟩
            · cases e2; exact ⟨j, r, hj, hl⟩
            · exact h.who m k' hm
          · have hq := h.job k' j' hj'
            refine ⟨hq.kd, hq.lt, hq.ex, fun hd' => ?_⟩
            obtain ⟨i', r', h1, h2⟩ := hq.did hd'
            refine ⟨i', r', h1, ?_⟩
            show (x.who.set i (some k))[i']? = _
            rw [List.getElem?_set_ne]
            · exact h2
            · rintro rfl
              rw [hw] at h2; cases h2
          · rw [hj] at h1; cases h1
            rw [hl] at h2; cases h2
            have := hun i
            rw [if_pos rfl] at this; omega
          · show (x.who.set i (some k))[m]? = _
            refine List.getElem?_set_ne fun e2 => ?_
            subst e2
            exact hm j r hj hl
          · rw [hj] at h1; cases h1
            rw [hl] at h2; cases h2
            rw [hw] at h3; cases h3
        | some k' =>
          by_cases hk : k' = k
          · subst hk
            have hme : ∀ m, m ≠ i → x.who[m]? = some (some k') → False := fun m hm h1 => by
              obtain ⟨j', r', h2, h3⟩ := h.who m k' h1
              rw [hj] at h2; cases h2
              rw [hl] at h3; cases h3
              exact hm rfl
            obtain ⟨s, hs1, hs2⟩ := hok.ex
            rw [hl] at hs1
            have hts := take_snoc hs1.symm
            cases hd : j.did with
            | false =>
              rw [step_do_eq hj hl hw hd]
              obtain ⟨T, hT⟩ : ∃ T, doneT (ssAt x.ss i) j.d = T := ⟨_, rfl⟩
              obtain ⟨Z, hZ⟩ : ∃ Z, x.ss.set i (doneS (ssAt x.ss i) j.d) = Z := ⟨_, rfl⟩
              rw [hT, hZ]
              have hjs : (x.js.set k' { j with did := true, ev := j.ev ++ [(i, T)] })[k']? = some { j with did := true, ev := j.ev ++ [(i, T)] } := List.getElem?_set_self hkl
              have hjo : ∀ q, q ≠ k' → (x.js.set k' { j with did := true, ev := j.ev ++ [(i, T)] })[q]? = x.js[q]? := fun q hq => List.getElem?_set_ne (Ne.symm hq)
              obtain ⟨y, hy⟩ : ∃ y : PS, ({ ss := Z, who := x.who, js := x.js.set k' { j with did := true, ev := j.ev ++ [(i, T)] }, hist := x.hist ++ [(j.d, i, T)] } : PS) = y := ⟨_, rfl⟩
              have hyj : y.js = x.js.set k' { j with did := true, ev := j.ev ++ [(i, T)] } := by rw [← hy]
              have hyw : y.who = x.who := by rw [← hy]
              have hyh : y.hist = x.hist ++ [(j.d, i, T)] := by rw [← hy]
              rw [hy]
              have hcnt : ∀ m, cntM y m = cntM x m := fun m => by
                have h1 := sum_set (f := fun j => if m ∈ j.left then 1 else 0) (j' := { j with did := true, ev := j.ev ++ [(i, T)] }) hj
                unfold cntM
                rw [hyj]
                simp only [] at h1
                omega
              have hh1 : holdM y i = 2 := by
                unfold holdM
                rw [hyw, hw]
                show farK y k' = 2
                unfold farK
                rw [hyj, hjs]
                simp
              have hh0 : holdM x i = 1 := by
                unfold holdM; rw [hw]
                show farK x k' = 1
                unfold farK; rw [hj]; simp [hd]
              have hhm : ∀ m, m ≠ i → holdM y m = holdM x m := fun m hm => hold_eq (by rw [hyw]) (fun q hq => by
                rw [hyj]
                exact hjo q fun e => hme m hm (e ▸ hq))
              have hc1 := cnt_pos (m := i) hj (by rw [hl]; exact List.mem_cons_self)
              have hun : ∀ m, unitM y m + (if m = i then 1 else 0) = unitM x m := fun m => by
                unfold unitM
                rw [hcnt]
                by_cases hm : m = i
                · subst hm; rw [hh1, hh0, if_pos rfl]; omega
                · rw [hhm m hm, if_neg hm]; rfl
              refine ⟨⟨by rw [hyw]; exact h.wl, fun m q hm => ?_, fun q j' hj' => ?_, ?_⟩, fun m => by have := hun m; omega, fun m j' r' h1 h2 h3 => ?_, fun q hq => by rw [hyj]; exact hjo q hq, fun m hm => by rw [hyw], by rw [hyj, List.length_set], fun m j' r' q h1 h2 h3 h4 => ?_, fun q j' h1 => ?_⟩
              · rw [hyw] at hm
                obtain ⟨j', r', h1, h2⟩ := h.who m q hm
                by_cases hq : q = k'
                · subst hq
                  rw [hj] at h1; cases h1
                  exact ⟨{ j with did := true, ev := j.ev ++ [(i, T)] }, r', by rw [hyj]; exact hjs, h2⟩
                · exact ⟨j', r', by rw [hyj, hjo q hq]; exact h1, h2⟩
              · rw [hyj] at hj'
                by_cases hq : q = k'
                · subst hq
                  rw [hjs] at hj'; cases hj'
                  refine ⟨hok.kd, hok.lt, ⟨s, by show j.left = _; rw [hl]; exact hs1, ?_⟩, fun _ => ⟨i, r, hl, by rw [hyw]; exact hw⟩⟩
                  show (j.ev ++ [(i, T)]).map (·.1) = (leftD j.d n).take (s + 1)
                  rw [List.map_append, hs2, hd]
                  exact hts.1
                · rw [hjo q hq] at hj'
                  have h2 := h.job q j' hj'
                  exact ⟨h2.kd, h2.lt, h2.ex, by rw [hyw]; exact h2.did⟩
              · have h1 := sum_set (f := fun j => j.ev.length) (j' := { j with did := true, ev := j.ev ++ [(i, T)] }) hj
                rw [hyh, hyj, List.length_append, h.hist]
                simp only [List.length_append, List.length_singleton] at h1 ⊢
                omega
              · rw [hj] at h1; cases h1
                rw [hl] at h2; cases h2
                have := hun i
                rw [if_pos rfl] at this; omega
              · rw [hj] at h1; cases h1
                rw [hl] at h2; cases h2
                rw [hw] at h3; cases h3
                exact absurd rfl h4
              · by_cases hq : q = k'
                · subst hq
                  rw [hj] at h1; cases h1
                  exact ⟨{ j with did := true, ev := j.ev ++ [(i, T)] }, by rw [hyj]; exact hjs, rfl⟩
                · exact ⟨j', by rw [hyj, hjo q hq]; exact h1, rfl⟩
            | true =>
              rw [step_free_eq hj hl hw hd]
              have hjs : (x.js.set k' { j with left := r, did := false })[k']? = some { j with left := r, did := false } := List.getElem?_set_self hkl
              have hjo : ∀ q, q ≠ k' → (x.js.set k' { j with left := r, did := false })[q]? = x.js[q]? := fun q hq => List.getElem?_set_ne (Ne.symm hq)
              obtain ⟨y, hy⟩ : ∃ y : PS, ({ x with who := x.who.set i none, js := x.js.set k' { j with left := r, did := false } } : PS) = y := ⟨_, rfl⟩
              have hyj : y.js = x.js.set k' { j with left := r, did := false } := by rw [← hy]
              have hyw : y.who = x.who.set i none := by rw [← hy]
              have hyh : y.hist = x.hist := by rw [← hy]
              rw [hy]
              have hil : i < x.who.length := by rw [h.wl]; exact hi
              have hcnt : ∀ m, cntM y m + (if m = i then 1 else 0) = cntM x m := fun m => by
                have h1 := sum_set (f := fun j => if m ∈ j.left then 1 else 0) (j' := { j with left := r, did := false }) hj
                unfold cntM
                rw [hyj]
                simp only [hl, List.mem_cons] at h1
                by_cases hm : m = i
                · subst hm
                  simp only [true_or, if_true, if_neg hir] at h1
                  rw [if_pos rfl]; omega
                · simp only [hm, false_or] at h1
                  rw [if_neg hm]; omega
              have hh1 : holdM y i = 0 := by
                unfold holdM
                rw [hyw, List.getElem?_set_self hil]
              have hh0 : holdM x i = 2 := by
                unfold holdM; rw [hw]
                show farK x k' = 2
                unfold farK; rw [hj]; simp [hd]
              have hhm : ∀ m, m ≠ i → holdM y m = holdM x m := fun m hm => hold_eq (by rw [hyw, List.getElem?_set_ne (Ne.symm hm)]) (fun q hq => by
                rw [hyj]
                exact hjo q fun e => hme m hm (e ▸ hq))
              have hun : ∀ m, unitM y m + (if m = i then 1 else 0) = unitM x m := fun m => by
                have h1 := hcnt m
                unfold unitM
                by_cases hm : m = i
                · subst hm; rw [if_pos rfl] at h1 ⊢; rw [hh1, hh0]; omega
                · rw [if_neg hm] at h1 ⊢; rw [hhm m hm]; omega
              refine ⟨⟨by rw [hyw, List.length_set]; exact h.wl, fun m q hm => ?_, fun q j' hj' => ?_, ?_⟩, fun m => by have := hun m; omega, fun m j' r' h1 h2 h3 => ?_, fun q hq => by rw [hyj]; exact hjo q hq, fun m hm => ?_, by rw [hyj, List.length_set], fun m j' r' q h1 h2 h3 h4 => ?_, fun q j' h1 => ?_⟩
              · rw [hyw] at hm
                rcases get_set hm with ⟨-, e2⟩ | ⟨hne, hm⟩
                · cases e2
                · obtain ⟨j', r', h1, h2⟩ := h.who m q hm
                  have hq : q ≠ k' := fun e => hme m hne (e ▸ hm)
                  exact ⟨j', r', by rw [hyj, hjo q hq]; exact h1, h2⟩
              · rw [hyj] at hj'
                by_cases hq : q = k'
                · subst hq
                  rw [hjs] at hj'; cases hj'
                  refine ⟨hok.kd, hok.lt, ⟨s + 1, hts.2.symm, ?_⟩, fun h2 => by cases h2⟩
                  show j.ev.map (·.1) = _
                  rw [hs2, hd]; rfl
                · rw [hjo q hq] at hj'
                  have h2 := h.job q j' hj'
                  refine ⟨h2.kd, h2.lt, h2.ex, fun hd' => ?_⟩
                  obtain ⟨i', r', h3, h4⟩ := h2.did hd'
                  refine ⟨i', r', h3, ?_⟩
                  rw [hyw, List.getElem?_set_ne]
                  · exact h4
                  · rintro rfl
                    rw [hw] at h4; cases h4
                    exact hq rfl
              · have h1 := sum_set (f := fun j => j.ev.length) (j' := { j with left := r, did := false }) hj
                rw [hyh, hyj, h.hist]
                simp only [] at h1 ⊢
                omega
              · rw [hj] at h1; cases h1
                rw [hl] at h2; cases h2
                have := hun i
                rw [if_pos rfl] at this; omega
              · rw [hyw]
                refine List.getElem?_set_ne fun e2 => ?_
                subst e2
                exact hm j r hj hl
              · rw [hj] at h1; cases h1
                rw [hl] at h2; cases h2
                rw [hw] at h3; cases h3
                exact absurd rfl h4
              · by_cases hq : q = k'
                · subst hq
                  rw [hj] at h1; cases h1
                  exact ⟨{ j with left := r, did := false }, by rw [hyj]; exact hjs, rfl⟩
                · exact ⟨j', by rw [hyj, hjo q hq]; exact h1, rfl⟩
          · rw [step_wait_eq hj hl hw hk]
            refine Stp.same h fun m j' r' h1 h2 h3 => ?_
            rw [hj] at h1; cases h1
            rw [hl] at h2; cases h2
            rw [hw] at h3
            rcases h3 with h3 | h3
            · cases h3
            · cases h3; exact hk rfl
end
/-! ### Passes -/
def runL (x : PS) (ks : List Nat) : PS := ks.foldl PS.step x
section
variable {n : Nat} {x : PS} {m : Nat}
theorem run_le (ks : List Nat) : ∀ {x : PS}, PInv n x → PInv n (runL x ks) ∧ (∀ m, unitM (runL x ks) m ≤ unitM x m) ∧ (runL x ks).js.length = x.js.length := by
  induction ks with
  | nil => intro x h; exact ⟨h, fun _ => Nat.le_refl _, rfl⟩
  | cons a ks ih =>
    intro x h
    have hs := step_stp h a
    obtain ⟨h1, h2, h3⟩ := ih hs.inv
    exact ⟨h1, fun m => Nat.le_trans (h2 m) (hs.le m), h3.trans hs.len⟩
theorem pass_dec (ks : List Nat) : ∀ {x : PS}, PInv n x → (∃ k ∈ ks, ∃ j r, x.js[k]? = some j ∧ j.left = m :: r ∧ (x.who[m]? = some none ∨ x.who[m]? = some (some k))) → unitM (runL x ks) m < unitM x m := by
  induction ks with
  | nil => rintro x h ⟨k, hk, -⟩; cases hk
  | cons a ks ih =>
    rintro x h ⟨k, hk, j, r, hj, hl, hw⟩
    have hs := step_stp h a
    have hr := (run_le ks hs.inv).2.1 m
    show unitM (runL (x.step a) ks) m < _
    by_cases ha : a = k
    · subst ha
      have := hs.lt m j r hj hl hw
      omega
    · have hk2 : k ∈ ks := by
        rcases List.mem_cons.1 hk with e | e
        · exact absurd e.symm ha
        · exact e
      by_cases hh : ∃ ja ra, x.js[a]? = some ja ∧ ja.left = m :: ra
      · obtain ⟨ja, ra, h1, h2⟩ := hh
        rcases hw with hw | hw
        · have := hs.lt m ja ra h1 h2 (.inl hw)
          omega
        · have e := hs.stay m ja ra k h1 h2 hw (Ne.symm ha)
          rw [e]
          exact ih h ⟨k, hk2, j, r, hj, hl, .inr hw⟩
      · have hw2 := hs.who m (fun ja ra h1 h2 => hh ⟨ja, ra, h1, h2⟩)
        have := ih hs.inv ⟨k, hk2, j, r, by rw [hs.js k (Ne.symm ha)]; exact hj, hl, by rw [hw2]; exact hw⟩
        have := hs.le m
        omega
def BusyM (x : PS) (m : Nat) : Prop := ∃ (k : Nat) (j : PJ) (r : List Nat), x.js[k]? = some j ∧ j.left = m :: r
theorem pass_busy (h : PInv n x) (hm : m < n) (hb : BusyM x m) : unitM (runL x (List.range x.js.length)) m < unitM x m := by
  obtain ⟨k, j, r, hj, hl⟩ := hb
  have hkl : ∀ {k : Nat} {j : PJ}, x.js[k]? = some j → k ∈ List.range x.js.length := fun h => List.mem_range.2 (List.getElem?_eq_some_iff.1 h).1
  have hw : x.who[m]? = some (x.who[m]'(by rw [h.wl]; exact hm)) := List.getElem?_eq_getElem (by rw [h.wl]; exact hm)
  cases ho : x.who[m]'(by rw [h.wl]; exact hm) with
  | none =>
    rw [ho] at hw
    exact pass_dec _ h ⟨k, hkl hj, j, r, hj, hl, .inl hw⟩
  | some k' =>
    rw [ho] at hw
    obtain ⟨j', r', h1, h2⟩ := h.who m k' hw
    exact pass_dec _ h ⟨k', hkl h1, j', r', h1, h2, .inr hw⟩
theorem mem_drop_range {n s i : Nat} (h : i ∈ (List.range n).drop s) : s ≤ i ∧ i < n := by
  obtain ⟨k, hk⟩ := List.getElem?_of_mem h
  rw [List.getElem?_drop] at hk
  have h1 := (List.getElem?_eq_some_iff.1 hk)
  obtain ⟨h2, h3⟩ := h1
  rw [List.length_range] at h2
  rw [List.getElem_range] at h3
  omega
theorem drop_range {n s i : Nat} (h1 : s ≤ i) (h2 : i < n) : i ∈ (List.range n).drop s := by
  refine List.mem_of_getElem? (i := i - s) ?_
  rw [List.getElem?_drop, List.getElem?_range (by omega)]
  congr 1; omega
/-- A job that has a shard yet to see, but isn't there, has the one ahead of it yet to see. -/
theorem ahead {k : Nat} {j : PJ} (h : JobOk n x k j) (hm : m ∈ j.left) (hh : ∀ r, j.left ≠ m :: r) : 1 ≤ m ∧ m - 1 ∈ j.left := by
  obtain ⟨s, hs, -⟩ := h.ex
  unfold leftD at hs
  split at hs
  · rw [hs] at hm
    have h1 := mem_drop_range hm
    have hne : s ≠ m := by
      rintro rfl
      have h2 : (List.range n).drop s = s :: (List.range n).drop (s + 1) := by
        rw [List.drop_eq_getElem_cons (by rw [List.length_range]; exact h1.2), List.getElem_range]
      exact hh _ (hs.trans h2)
    rw [hs]
    exact ⟨by omega, drop_range (by omega) (by omega)⟩
  · cases s with
    | zero =>
      rw [List.drop_zero] at hs
      rw [hs] at hm
      obtain rfl := List.mem_singleton.1 hm
      exact absurd hs (hh [])
    | succ s =>
      rw [hs] at hm
      simp at hm
theorem idle (h : PInv n x) (hb : ¬ BusyM x m) : unitM x m = 0 ∨ (1 ≤ m ∧ unitM x m ≤ unitM x (m - 1) + 2 ∧ 1 ≤ unitM x (m - 1)) := by
  by_cases hc : cntM x m = 0
  · exact .inl (by unfold unitM; rw [hc]; omega)
  · refine .inr ?_
    have hah : ∀ (k : Nat) (j : PJ), x.js[k]? = some j → m ∈ j.left → 1 ≤ m ∧ m - 1 ∈ j.left := fun k j hj hm => ahead (h.job k j hj) hm fun r hr => hb ⟨k, j, r, hj, hr⟩
    have hle : cntM x m ≤ cntM x (m - 1) := by
      unfold cntM
      refine sum_mono fun j hj => ?_
      obtain ⟨k, hk⟩ := List.getElem?_of_mem hj
      by_cases hm : m ∈ j.left
      · rw [if_pos hm, if_pos (hah k j hk hm).2]; exact Nat.le_refl _
      · rw [if_neg hm]; exact Nat.zero_le _
    have hm1 : 1 ≤ m := by
      rcases Nat.eq_zero_or_pos m with e | e
      · exfalso
        apply hc
        unfold cntM
        have h0 : ∀ j ∈ x.js, (if m ∈ j.left then 1 else 0) ≤ 0 := fun j hj => by
          obtain ⟨k, hk⟩ := List.getElem?_of_mem hj
          by_cases hm : m ∈ j.left
          · have := (hah k j hk hm).1; omega
          · rw [if_neg hm]; exact Nat.le_refl _
        have h1 := sum_mono (f := fun j => if m ∈ j.left then 1 else 0) (g := fun _ => 0) h0
        have h2 : (x.js.map fun _ => 0).sum = 0 := by
          generalize x.js = l
          induction l with
          | nil => rfl
          | cons a l ih => simpa using ih
        omega
      · exact e
    have h2 := hold_le x (m - 1)
    refine ⟨hm1, ?_, ?_⟩ <;> unfold unitM <;> omega
def passN (x : PS) : Nat → PS
  | 0 => x
  | t + 1 => runL (passN x t) (List.range x.js.length)
theorem pass_inv (h : PInv n x) (hb : ∀ m, m < n → unitM x m ≤ 90) : ∀ t, PInv n (passN x t) ∧ (passN x t).js.length = x.js.length ∧ ∀ m, m < n → unitM (passN x t) m = 0 ∨ unitM (passN x t) m + t ≤ 90 + 3 * m := by
  intro t
  induction t with
  | zero => exact ⟨h, rfl, fun m hm => .inr (by have := hb m hm; show unitM x m + 0 ≤ _; omega)⟩
  | succ t ih =>
    obtain ⟨h1, h2, h3⟩ := ih
    obtain ⟨k1, k2, k3⟩ := run_le (List.range x.js.length) h1
    refine ⟨k1, k3.trans h2, fun m hm => ?_⟩
    show unitM (runL (passN x t) (List.range x.js.length)) m = 0 ∨ unitM (runL (passN x t) (List.range x.js.length)) m + (t + 1) ≤ _
    have hle := k2 m
    by_cases hbz : BusyM (passN x t) m
    · have := pass_busy h1 hm hbz
      rw [h2] at this
      rcases h3 m hm with h4 | h4 <;> omega
    · rcases idle h1 hbz with h4 | ⟨h4, h5, h6⟩
      · omega
      · rcases h3 (m - 1) (by omega) with h7 | h7 <;> omega
def AllDone (x : PS) : Prop := ∀ j ∈ x.js, j.left = []
theorem pass_done (h : PInv n x) (hn : n ≤ 4) (hJ : x.js.length ≤ 30) : AllDone (passN x 100) := by
  have hb : ∀ m, m < n → unitM x m ≤ 90 := fun m _ => by
    have h1 := sum_mono (l := x.js) (f := fun j => if m ∈ j.left then 1 else 0) (g := fun _ => 1) (fun j _ => by split <;> omega)
    have h2 : (x.js.map fun _ => 1).sum = x.js.length := by
      generalize x.js = l
      induction l with
      | nil => rfl
      | cons a l ih => simp only [List.map_cons, List.sum_cons, ih, List.length_cons]; omega
    unfold unitM cntM
    omega
  obtain ⟨h1, -, h3⟩ := pass_inv h hb 100
  intro j hj
  obtain ⟨k, hk⟩ := List.getElem?_of_mem hj
  cases hl : j.left with
  | nil => rfl
  | cons i r =>
    exfalso
    have hi := (h1.job k j hk).ltl i (by rw [hl]; exact List.mem_cons_self)
    have hc := cnt_pos (m := i) hk (by rw [hl]; exact List.mem_cons_self)
    have h2 := hold_le (passN x 100) i
    have := h3 i hi
    unfold unitM at this
    omega
/-! ### One step behind the other, round and round -/
def runS (x : PS) (J : Nat) : Nat → PS
  | 0 => x
  | i + 1 => (runS x J i).step (i % J)
theorem run_snoc (x : PS) (ks : List Nat) (k : Nat) : runL x (ks ++ [k]) = (runL x ks).step k := by unfold runL; rw [List.foldl_append]; rfl
theorem runS_pass (x : PS) (J t : Nat) : ∀ r, r ≤ J → runS x J (J * t + r) = runL (runS x J (J * t)) (List.range r) := by
  intro r
  induction r with
  | zero => intro _; rfl
  | succ r ih =>
    intro hr
    show (runS x J (J * t + r)).step ((J * t + r) % J) = _
    rw [ih (by omega), List.range_succ, run_snoc]
    congr 1
    rw [Nat.mul_add_mod]
    exact Nat.mod_eq_of_lt (by omega)
theorem runS_passN (x : PS) (t : Nat) : runS x x.js.length (x.js.length * t) = passN x t := by
  induction t with
  | zero => rfl
  | succ t ih =>
    rw [Nat.mul_succ, runS_pass x x.js.length t x.js.length (Nat.le_refl _), ih]
    rfl
theorem done_step (h : AllDone x) (k : Nat) : x.step k = x := by
  cases hj : x.js[k]? with
  | none => unfold PS.step; rw [hj]
  | some j => exact step_fin_eq hj (h j (List.mem_of_getElem? hj))
theorem runS_inv (h : PInv n x) (J : Nat) : ∀ i, PInv n (runS x J i) ∧ (runS x J i).js.length = x.js.length := by
  intro i
  induction i with
  | zero => exact ⟨h, rfl⟩
  | succ i ih =>
    have hs := step_stp ih.1 (i % J)
    exact ⟨hs.inv, hs.len.trans ih.2⟩
theorem runS_done (h : PInv n x) (hn : n ≤ 4) (hJ : x.js.length ≤ 30) : AllDone (runS x x.js.length 5000) := by
  have h0 : AllDone (runS x x.js.length (x.js.length * 100)) := by rw [runS_passN]; exact pass_done h hn hJ
  have h1 : ∀ e, runS x x.js.length (x.js.length * 100 + e) = runS x x.js.length (x.js.length * 100) := by
    intro e
    induction e with
    | zero => rfl
    | succ e ih =>
      show (runS x x.js.length (x.js.length * 100 + e)).step _ = _
      rw [ih]
      exact done_step h0 _
  have h2 := h1 (5000 - x.js.length * 100)
  have e : x.js.length * 100 + (5000 - x.js.length * 100) = 5000 := by omega
  rw [e] at h2
  rw [h2]; exact h0
theorem done_ev {k : Nat} {j : PJ} (h : JobOk n x k j) (hl : j.left = []) : j.ev.map (·.1) = leftD j.d n := by
  have hd : j.did = false := by
    cases hd : j.did with
    | false => rfl
    | true =>
      obtain ⟨i, r, h1, -⟩ := h.did hd
      rw [hl] at h1; cases h1
  obtain ⟨s, h1, h2⟩ := h.ex
  rw [hl] at h1
  have h3 : (leftD j.d n).length ≤ s := by
    have := congrArg List.length h1
    rw [List.length_drop] at this
    simp only [List.length_nil] at this
    omega
  rw [h2, hd]
  exact List.take_of_length_le (by show _ ≤ s + 0; omega)
theorem PInv.new (n : Nat) (ss : List SS) : PInv n ⟨ss, noW n, [], []⟩ :=
  ⟨by simp [noW], fun m k h => by have := List.mem_of_getElem? h; simp [noW] at this, fun k j h => by simp at h, rfl⟩
theorem PInv.begin (h : PInv n x) (d : Dd) (hk : 1 ≤ d.kind ∧ d.kind ≤ 4) (hl : ∀ i ∈ leftD d n, i < n) : PInv n { x with js := x.js ++ [⟨d, leftD d n, false, []⟩] } := by
  refine ⟨h.wl, fun m k hm => ?_, fun k j hj => ?_, ?_⟩
  · obtain ⟨j, r, h1, h2⟩ := h.who m k hm
    refine ⟨j, r, ?_, h2⟩
    show (x.js ++ _)[k]? = _
    rw [List.getElem?_append_left (List.getElem?_eq_some_iff.1 h1).1]; exact h1
  · rcases get_snoc hj with ⟨-, hj⟩ | ⟨-, rfl⟩
    · have h2 := h.job k j hj
      exact ⟨h2.kd, h2.lt, h2.ex, h2.did⟩
    · exact ⟨hk, hl, ⟨0, rfl, rfl⟩, fun h => by cases h⟩
  · show x.hist.length = ((x.js ++ _).map _).sum
    rw [List.map_append, List.sum_append, h.hist]; rfl
end
end Go.Proofs.Ytogjfcmclfehkaa
namespace Go.Proofs.Ytogjfcmclfehkaa
open Go Go.RowKit Go.Proofs.MapL PPM Go.Proofs.YtogjfcmclfehkaaW.PrintWords

theorem elJP : Elem Try.prog 28 29 (.pointer none) 1 8 := ⟨by kernel_rfl, by kernel_rfl, rfl, by omega⟩
/-- Turns that came in. -/
structure TurnsAt (w : World) (v : Value) (ts : List Nat) : Prop where
  le : ts.length ≤ 9223372036854775807
  at_ : ∃ A c, v = .slice A ts.length c ∧ (0 < ts.length → ∃ b off, A = some ⟨b, off, none⟩ ∧ ∀ i (h : i < ts.length), w.cell? ⟨b, off + i, none⟩ = some (.int .u8 (ts[i] : Nat)))
  sm : ∀ t ∈ ts, t < 256
theorem evrow_cell {w : World} {base g n c : Nat} {ev : List Ev} (h : w.ownsRow base 47 20 (.slice (some ⟨g, 0, none⟩) n c) n (ev.flatMap Ev.c)) {q : Nat} {x : Ev} (hq : ev[q]? = some x) {k : Nat} (hk : k < 20) {u : Value} (hu : x.c[k]? = some u) : w.cell? ⟨g, q * 20 + k, none⟩ = some u := by
  have h1 := own_cells h (q * 20 + k) u (by rw [flat_get ev_len _ _ _ hk, hq]; exact hu)
  rw [add_at, Nat.zero_add] at h1
  exact h1
theorem js_fin {b0 : Nat} {w : World} {C : CB} {x : PS} {ps : List Nat} {k p : Nat} {y : PJ} (h : JsAt b0 w C x ps) (hk : ps[k]? = some p) (hy : x.js[k]? = some y) (hl : y.left = []) :
    Calls Try.prog 11 #[pV p] w fun r w' => r = .returned (.bool true) ∧ w' = w := by
  obtain ⟨hv, c, L, h⟩ := h
  have hkl : k < L.length := by
    have := (List.getElem?_eq_some_iff.1 hk).1
    rw [← h.pe, List.length_map] at this; exact this
  obtain ⟨j, hj⟩ : ∃ j, L[k]? = some j := ⟨_, List.getElem?_eq_getElem hkl⟩
  have hjm := List.mem_of_getElem? hj
  have hjp : j.p = p := by
    have h1 := get_map (f := (·.p)) hj
    rw [h.pe, hk] at h1
    exact (Option.some.inj h1).symm
  have hpj := h.pj k j hj
  rw [hy] at hpj
  subst hjp
  cases hpj
  exact step_done (h.job j hjm) hl
theorem runS_hist (x : PS) (J : Nat) : ∀ i, (runS x J i).hist.length ≤ x.hist.length + i := by
  intro i
  induction i with
  | zero => exact Nat.le_refl _
  | succ i ih =>
    have := step_hist (runS x J i) (i % J)
    show ((runS x J i).step (i % J)).hist.length ≤ _
    omega
theorem runS_zero {x : PS} (h : x.js.length = 0) (i : Nat) : runS x 0 i = x := by
  have ha : AllDone x := fun j hj => by rw [List.eq_nil_of_length_eq_zero h] at hj; cases hj
  induction i with
  | zero => rfl
  | succ i ih => show (runS x 0 i).step _ = _; rw [ih]; exact done_step ha _
def evSum (x : PS) (k : Nat) : Nat := ((x.js.take k).map fun j => j.ev.length).sum
theorem evSum_le {x : PS} {n : Nat} (h : PInv n x) (k : Nat) : evSum x k ≤ x.hist.length := by
  rw [h.hist]
  unfold evSum
  have e : x.js = x.js.take k ++ x.js.drop k := (List.take_append_drop k x.js).symm
  conv => rhs; rw [e]
  rw [List.map_append, List.sum_append]; omega
theorem evSum_all {x : PS} {n : Nat} (h : PInv n x) : evSum x x.js.length = x.hist.length := by
  rw [h.hist]; unfold evSum; rw [List.take_length]
theorem evSum_succ {x : PS} {k : Nat} {j : PJ} (h : x.js[k]? = some j) : evSum x (k + 1) = evSum x k + j.ev.length := by
  unfold evSum; rw [List.take_add_one, h]; simp
/-- A row of another type is written. -/
theorem JsAt.n0 {b0 : Nat} {w : World} {C : CB} {x : PS} {ps : List Nat} (h : JsAt b0 w C x ps) : C.n0 ≤ w.heap.size := by
  obtain ⟨hv, c, L, h⟩ := h
  exact h.ca.n0
theorem JsAt.bn {b0 : Nat} {w : World} {C : CB} {x : PS} {ps : List Nat} (h : JsAt b0 w C x ps) : b0 ≤ C.n0 := by
  obtain ⟨hv, c, L, h⟩ := h
  exact h.b.2
theorem JsAt.row {b0 : Nat} {w w' : World} {C : CB} {x : PS} {ps : List Nat} (h : JsAt b0 w C x ps) {m : Nat} {v : Value} {xs : List Value} (hr : w.ownsRow C.n0 29 1 v m xs) (hf : Fr v.ownBlock.toList w w') : JsAt b0 w' C x ps := by
  obtain ⟨hv, c, L, h⟩ := h
  have hnt : ∀ T, 29 ≠ T → NoT w v.ownBlock.toList T := fun T hT => NoT.own hr hT
  have hne : ∀ {y T : Nat} {cs : List Value}, Blk w y T cs → 29 ≠ T → y ∉ v.ownBlock.toList := fun hb hT hy => hnt _ hT _ hy _ hb
  refine ⟨hv, c, L, ⟨h.ca.out hf (fun k hk => (hr.lt k (by simpa using hk)).1) (fun k hk => ?_) (hnt _ (by decide)), h.pe, h.ln, h.ss, h.who, h.wl, h.hist, fun j hj => ?_, h.pj, h.jd, h.el, h.ow, h.nd, h.b⟩⟩
  · obtain ⟨cs, hb⟩ := own_kblk h.ca.hist.row hk
    exact hne hb (by decide)
  · have hja := h.job j hj
    refine hja.fr hf (hne hja.blk (by decide)) (hnt _ (by decide)) (hnt _ (by decide)) fun k hk => ?_
    obtain ⟨cs, hb⟩ := own_kblk hja.ev.row hk
    exact hne hb (by decide)
set_option maxRecDepth 100000 in
set_option maxHeartbeats 40000000 in
theorem ends_law (na nb : Int) (ha : 0 ≤ na ∧ na < 256) (hb : 0 ≤ nb ∧ nb < 256) {v v2 : Value} {ds : List Dd} {ts : List Nat} {W : World} (hD : DeedsAt W v ds) (hT : TurnsAt W v2 ts) :
    Calls Try.prog 3 #[.agg #[.int .u8 na, .int .u8 nb], v, v2] W fun r w' => r = .returned (.bool true) ∧ Fr [] W w' := by
  have HD := Hd.mk hD
  obtain ⟨A, c, rfl, hat⟩ := hD.at_
  have HAT := Hd.mk hat
  have HLE := Hd.mk hD.le
  have HT := Hd.mk hT
  obtain ⟨A2, c2, rfl, hat2⟩ := hT.at_
  have HAT2 := Hd.mk hat2
  have HLE2 := Hd.mk hT.le
  obtain ⟨sa, rfl⟩ : ∃ n : Nat, na = n := Int.eq_ofNat_of_zero_le ha.1
  obtain ⟨sb, rfl⟩ : ∃ n : Nat, nb = n := Int.eq_ofNat_of_zero_le hb.1
  have hs256 : sa < 256 ∧ sb < 256 := by omega
  clear hD hat ha hb hT hat2
  go_enter Try.func3, Try.ntmps3
  go_upto_region 1 with (fail)
  refine wp_name ?_; intro w0 hw0
  have hf0 := alloc_of hw0
  have hbe := blk_of (T := 22) (c := [.int .u8 sa, .int .u8 sb]) hw0
  clear hw0
  obtain ⟨be, h_be⟩ : ∃ p, W.heap.size = p := ⟨_, rfl⟩
  rw [h_be] at hbe ⊢
  have HE := Hd.mk hbe
  have HF := Hd.mk hf0
  clear hbe hf0 h_be
  go_wp2_with fail
  refine (shown_law _).mono ?_
  rintro r wn ⟨rfl, hf⟩
  have HE := Hd.mk (HE.out.fr hf (by simp))
  have HF := Hd.mk (HF.out.trans hf)
  clear hf
  have e0 : wn.cell? ⟨be, 0, none⟩ = some (.int .u8 sa) := HE.out.cell (i := 0) rfl
  have e1 : wn.cell? ⟨be, 1, none⟩ = some (.int .u8 sb) := HE.out.cell (i := 1) rfl
  have HN4 : Hd (1 ≤ 1 + sa % 4 ∧ 1 + sa % 4 ≤ 4) := Hd.mk ⟨by omega, by omega⟩
  have HRM : Hd (1 ≤ 1 + sb % 6 ∧ 1 + sb % 6 ≤ 64) := Hd.mk ⟨by omega, by omega⟩
  go_wp2_with fail
  clear e0 e1
  obtain ⟨n, hn0⟩ : ∃ n : Nat, 1 + sa % 4 = n := ⟨_, rfl⟩
  obtain ⟨rm, hr0⟩ : ∃ n : Nat, 1 + sb % 6 = n := ⟨_, rfl⟩
  rw [show ((1 : Int) + (sa : Int) % 4) = ((1 + sa % 4 : Nat) : Int) by omega, show ((1 : Int) + (sb : Int) % 6) = ((1 + sb % 6 : Nat) : Int) by omega]
  rw [hn0] at HN4 ⊢
  rw [hr0] at HRM ⊢
  clear hn0 hr0
  refine (js_new n rm 8 HRM.out.1 HRM.out.2 (by omega) (by omega) ⟨HN4.out.1, by have := HN4.out.2; omega⟩ _).mono ?_
  rintro r wc ⟨C, rfl, hj, hn, hf⟩
  have HB0 : Hd (W.heap.size ≤ wn.heap.size) := Hd.mk HF.out.size
  obtain ⟨b0, hb0⟩ : ∃ b, wn.heap.size = b := ⟨_, rfl⟩
  rw [hb0] at hj HB0
  have HF := Hd.mk (HF.out.trans hf)
  have HJ := Hd.mk hj
  have HN := Hd.mk hn
  have HNN : Hd (W.heap.size ≤ C.n0) := Hd.mk (Nat.le_trans HB0.out hj.bn)
  have HP := Hd.mk (PInv.new n (List.replicate n (newS rm)))
  clear hj hf hn hb0 HE hs256
  unfold pV
  go_upto_block 0 with fail
  go_cut [10] from 19 (fun jv w2 => ∃ (x : PS) (ps : List Nat) (J : Nat) (Aj : Option Addr) (cj : Nat), jv = .slice Aj J cj ∧ (0 < J → ∃ g, Aj = some ⟨g, 0, none⟩ ∧ True) ∧ ps.length = J ∧ J ≤ 30 ∧ JsAt b0 w2 C x ps ∧ PInv n x ∧ x.hist.length = 0 ∧ w2.ownsRow C.n0 29 1 (.slice Aj J cj) J (ps.map pV) ∧ Fr [] W w2)
  case first =>
   go_wp2_with fail
   go_loopw [10, 11] (fun jv i wr => ∃ (j : Nat) (x : PS) (ps : List Nat), j ≤ ds.length ∧ j ≤ 30 ∧ i = .int .i64 j ∧ JsAt b0 wr C x ps ∧ PInv n x ∧ ps.length ≤ j ∧ x.hist.length = 0 ∧ wr.ownsRow C.n0 29 1 jv ps.length (ps.map pV) ∧ Fr [] W wr) (fun _ i _ => 40 - (intOf i).toNat)
   case atStart => exact ⟨0, _, [], Nat.zero_le _, by omega, rfl, HJ.out, HP.out, Nat.le_refl _, rfl, World.ownsRow_nil _ _ _ _, HF.out⟩
   case round =>
     obtain ⟨j, x, ps, hj, hj30, rfl, hjs, hpi, hpl, hh, hrow, hfr⟩ := hrel
     have HJ := Hd.mk hjs
     have HP := Hd.mk hpi
     have HPL := Hd.mk hpl
     have HH := Hd.mk hh
     have HR := Hd.mk hrow
     have HF := Hd.mk hfr
     clear hjs hpi hpl hh hrow hfr
     have hle := HLE.out
     by_cases hlt : j < ds.length ∧ j < 30
     · obtain ⟨hl1, hl2⟩ := hlt
       obtain ⟨g, off, rfl, hgl, hcc⟩ := HAT.out (by omega)
       obtain ⟨d, hd⟩ : ∃ d, ds[j] = d := ⟨_, rfl⟩
       have hcd := hcc j hl1
       have hrd := HD.out.rr (ds[j]) (List.getElem_mem hl1)
       rw [hd] at hcd hrd
       have HRD := Hd.mk hrd
       have hwr : ∀ k u, d.c[k]? = some u → wr.cell? ⟨g, off + j * 9 + k, none⟩ = some u := fun k u hu => HF.out.cell (hcd k u hu) (by simp)
       have c0 : wr.cell? ⟨g, off + j * 9, none⟩ = some (.int .i64 d.kind) := hwr 0 _ rfl
       have c1 : wr.cell? ⟨g, off + j * 9 + 1, none⟩ = some (.string d.e.q.name) := hwr 1 _ rfl
       have c2 : wr.cell? ⟨g, off + j * 9 + 2, none⟩ = some (.int .u16 d.e.q.ty) := hwr 2 _ rfl
       have c3 : wr.cell? ⟨g, off + j * 9 + 3, none⟩ = some (.int .u16 d.e.q.cl) := hwr 3 _ rfl
       have c4 : wr.cell? ⟨g, off + j * 9 + 4, none⟩ = some (.slice d.e.ra d.e.rn d.e.rc) := hwr 4 _ rfl
       have c5 : wr.cell? ⟨g, off + j * 9 + 5, none⟩ = some (.int .i64 d.e.rcode) := hwr 5 _ rfl
       have c6 : wr.cell? ⟨g, off + j * 9 + 6, none⟩ = some (.int .i64 d.e.rank) := hwr 6 _ rfl
       have c7 : wr.cell? ⟨g, off + j * 9 + 7, none⟩ = some (.int .u64 d.e.expire) := hwr 7 _ rfl
       have c8 : wr.cell? ⟨g, off + j * 9 + 8, none⟩ = some (.int .u64 d.now) := hwr 8 _ rfl
       clear hcd hrd hcc hd hgl hwr
       go_wp2_with fail
       clear c0 c1 c2 c3 c4 c5 c6 c7 c8
       refine (made_calls d _).mono ?_
       rintro r wn ⟨rfl, hf⟩
       have HJ := Hd.mk (HJ.out.fr0 hf)
       have HR := Hd.mk (own_fr HR.out hf (by simp))
       have HF := Hd.mk (HF.out.trans hf)
       clear hf
       by_cases hk : 1 ≤ d.kind ∧ d.kind ≤ 4
       · go_wp2_with fail
         refine (js_begin HJ.out d HRD.out.2.2 HRD.out.1.t HRD.out.2.1 hk).mono ?_
         rintro r wk ⟨p, rfl, hj2, hf⟩
         rw [HN.out] at hj2
         have HP := Hd.mk (HP.out.begin d hk (fun i hi => by
           unfold leftD at hi
           split at hi
           · simpa using hi
           · obtain rfl := List.mem_singleton.1 hi
             exact hash_lt _ HRD.out.2.2 _ HN4.out.1 (by have := HN4.out.2; omega)))
         have HJ := Hd.mk hj2
         have HF := Hd.mk (HF.out.trans hf)
         have hown := own_fr HR.out hf (by simp)
         have hbz : C.n0 ≤ wk.heap.size := HJ.out.n0
         have hpl := HPL.out
         clear hj2 hf hk HR
         unfold pV
         go_upto_region 9 with (at_builtin; refine wpList_app1s elJP rfl (.tmp 53) (.tmp 55) rfl hown rfl [.pointer (some ⟨p, 0, none⟩)] rfl rfl (by simp [Value.oneCell']) (by omega) (by omega) hbz ?_; intro g9 c9 w9 ho9 hf9 hb9 hg9 hor9; have HO9 := Hd.mk ho9; have HF9 := Hd.mk hf9; have HNT : Hd (∀ k, k ∈ (Value.ownBlock _).toList → C.n0 ≤ k) := Hd.mk (fun k hk => (hown.lt k (by simpa using hk)).1); have HJN : Hd (JsAt b0 w9 C _ _) := Hd.mk (HJ.out.row hown hf9); clear ho9 hf9 hb9 hg9 hor9 hown hbz)
         have HF := Hd.mk (HF.out.weak HF9.out (fun k hk => .inr (Nat.le_trans HNN.out (HNT.out k hk))))
         have HR : Hd (w9.ownsRow C.n0 29 1 (.slice (some ⟨g9, 0, none⟩) (ps.length + 1) c9) (ps.length + 1) (ps.map pV ++ [pV p])) := Hd.mk HO9.out
         go_wp2
         go_roundw
         case rel => exact ⟨j + 1, _, ps ++ [p], by omega, by omega, by go_num, HJN.out, HP.out, by rw [List.length_append]; simp; omega, HH.out, by rw [List.length_append, List.map_append]; exact HR.out, HF.out⟩
         case measure => simp [intOf]; omega
       · go_wp2_with fail
         refine (begin_bad C.pc d (by omega) _).mono ?_
         rintro r wk ⟨rfl, hf⟩
         have HJ := Hd.mk (HJ.out.fr0 hf)
         have HR := Hd.mk (own_fr HR.out hf (by simp))
         have HF := Hd.mk (HF.out.trans hf)
         have hpl := HPL.out
         clear hf hk
         go_wp2
         go_roundw
         case rel => exact ⟨j + 1, _, ps, by omega, by omega, by go_num, HJ.out, HP.out, by omega, HH.out, HR.out, HF.out⟩
         case measure => simp [intOf]; omega
     · have hcnd : ¬ ((j : Int) < ds.length) ∨ ((j : Int) < ds.length ∧ ¬ ((j : Int) < 30)) := by omega
       have hform : ∃ A c, u10 = .slice A ps.length c ∧ (0 < ps.length → ∃ g, A = some ⟨g, 0, none⟩ ∧ True) := by
         rcases HR.out.2 with ⟨e, e2⟩ | ⟨g, cap, cur, e, -⟩
         · exact ⟨_, _, by rw [e, e2], fun h => by omega⟩
         · exact ⟨_, _, e, fun _ => ⟨g, rfl, trivial⟩⟩
       obtain ⟨Aj, cj, hju, hG⟩ := hform
       subst hju
       have HG := Hd.mk hG
       clear hG hlt hj
       rcases hcnd with hcnd | ⟨hcnd, hcnd2⟩
       all_goals
         go_wp2_with fail
         go_meet
         case rel => exact ⟨x, ps, ps.length, Aj, cj, rfl, HG.out, rfl, by have := HPL.out; omega, HJ.out, HP.out, HH.out, HR.out, HF.out⟩
  case rest =>
    obtain ⟨x, ps, J, Aj, cj, rfl, hG, hJ, hJ30, hjs, hpi, hh, hrow, hfr⟩ := hcut
    have HXL : Hd (x.js.length = J) := Hd.mk (by rw [← hJ]; exact hjs.len.symm)
    have HG := Hd.mk hG
    have HPL := Hd.mk hJ
    have HJ30 := Hd.mk hJ30
    have HJ := Hd.mk hjs
    have HP := Hd.mk hpi
    have HH := Hd.mk hh
    have HR := Hd.mk hrow
    have HF := Hd.mk hfr
    clear hG hJ hJ30 hjs hpi hh hrow hfr
    go_upto_block 2 with fail
    go_cut [] from 19 (fun w2 => ∃ (x : PS), JsAt b0 w2 C x ps ∧ PInv n x ∧ x.js.length = J ∧ x.hist.length ≤ 300 ∧ w2.ownsRow C.n0 29 1 (.slice Aj J cj) J (ps.map pV) ∧ Fr [] W w2)
    case first =>
     go_wp2_with fail
     go_loopw [13] (fun i wr => ∃ (j : Nat) (x : PS), j ≤ ts.length ∧ j ≤ 300 ∧ i = .int .i64 j ∧ JsAt b0 wr C x ps ∧ PInv n x ∧ x.js.length = J ∧ x.hist.length ≤ j ∧ wr.ownsRow C.n0 29 1 (.slice Aj J cj) J (ps.map pV) ∧ Fr [] W wr) (fun i _ => 400 - (intOf i).toNat)
     case atStart => exact ⟨0, x, Nat.zero_le _, by omega, rfl, HJ.out, HP.out, HXL.out, by rw [HH.out]; exact Nat.le_refl _, HR.out, HF.out⟩
     case round =>
       obtain ⟨j, x, hj, hj300, rfl, hjs, hpi, hxl, hh, hrow, hfr⟩ := hrel
       have HJ := Hd.mk hjs
       have HP := Hd.mk hpi
       have HXL := Hd.mk hxl
       have HH := Hd.mk hh
       have HR := Hd.mk hrow
       have HF := Hd.mk hfr
       clear hjs hpi hxl hh hrow hfr
       have hle := HLE2.out
       by_cases hlt : j < ts.length ∧ j < 300 ∧ 0 < J
       · obtain ⟨hl1, hl2, hJ0⟩ := hlt
         obtain ⟨g, off, rfl, hcc⟩ := HAT2.out (by omega)
         obtain ⟨tt, htt⟩ : ∃ t, ts[j] = t := ⟨_, rfl⟩
         have hcd := hcc j hl1
         rw [htt] at hcd
         have ht256 : tt < 256 := by rw [← htt]; exact HT.out.sm _ (List.getElem_mem hl1)
         have c0 : wr.cell? ⟨g, off + j, none⟩ = some (.int .u8 tt) := HF.out.cell hcd (by simp)
         obtain ⟨k, hk⟩ : ∃ k, tt % J = k := ⟨_, rfl⟩
         have hkJ : k < J := by rw [← hk]; exact Nat.mod_lt _ hJ0
         obtain ⟨p, hp⟩ : ∃ p, ps[k]? = some p := ⟨_, List.getElem?_eq_getElem (by rw [HPL.out]; exact hkJ)⟩
         obtain ⟨gj, hA, -⟩ := HG.out (by omega)
         subst hA
         have b0c : wr.cell? ⟨gj, k, none⟩ = some (.pointer (some ⟨p, 0, none⟩)) := own_cell (v := pV p) HR.out (by rw [List.getElem?_map, hp]; rfl)
         have hrem : ((tt : Int) % (J : Int)) = (k : Int) := by rw [← hk]; omega
         have hremt : Int.tmod (tt : Int) (J : Int) = (k : Int) := by rw [Int.tmod_eq_emod_of_nonneg (by omega)]; exact hrem
         have hj30 := HJ30.out
         have HPK := Hd.mk hp
         clear hcc hcd htt hk hp
         go_wp2_with fail
         clear c0 b0c hrem hremt
         refine (js_step (k := k) HJ.out HPK.out (by have := HH.out; omega)).mono ?_
         rintro r wn ⟨rfl, hj2, hf⟩
         have HS := Hd.mk (step_stp HP.out k)
         have HF := Hd.mk (hf.fr HF.out HB0.out)
         have HR := Hd.mk (own_frn HR.out hf (by unfold Tok; decide))
         have HJ := Hd.mk hj2
         have HH2 : Hd ((x.step k).hist.length ≤ j + 1) := Hd.mk (by have := step_hist x k; have := HH.out; omega)
         clear hj2 hf
         go_wp2
         go_roundw
         case rel => exact ⟨j + 1, _, by omega, by omega, by go_num, HJ.out, HS.out.inv, HS.out.len.trans HXL.out, HH2.out, HR.out, HF.out⟩
         case measure => simp [intOf]; omega
       · have hcn2 : ¬ ((j : Int) < ts.length) ∨ ((j : Int) < ts.length ∧ ¬ ((j : Int) < 300)) ∨ ((j : Int) < ts.length ∧ (j : Int) < 300 ∧ ¬ (0 < (J : Int))) := by omega
         have HH3 : Hd (x.hist.length ≤ 300) := Hd.mk (by have := HH.out; omega)
         clear hlt hj
         rcases hcn2 with hcn2 | ⟨hcn2, hcn3⟩ | ⟨hcn2, hcn3, hcn4⟩
         all_goals
           go_wp2_with fail
           go_meet
           case rel => exact ⟨x, HJ.out, HP.out, HXL.out, HH3.out, HR.out, HF.out⟩
    case rest =>
      obtain ⟨x, hjs, hpi, hxl, hh, hrow, hfr⟩ := hcut
      have HJ := Hd.mk hjs
      have HP := Hd.mk hpi
      have HXL := Hd.mk hxl
      have HH3 := Hd.mk hh
      have HR := Hd.mk hrow
      have HF := Hd.mk hfr
      have HDN := Hd.mk (runS_done hpi HN4.out.2 (by rw [hxl]; exact HJ30.out))
      rw [hxl] at HDN
      clear hjs hpi hxl hh hrow hfr
      go_wp2_with fail
      go_loopw [14] (fun i wr => ∃ (j : Nat), j ≤ 5000 ∧ i = .int .i64 j ∧ JsAt b0 wr C (runS x J j) ps ∧ wr.ownsRow C.n0 29 1 (.slice Aj J cj) J (ps.map pV) ∧ Fr [] W wr) (fun i _ => 5000 - (intOf i).toNat)
      case atStart => exact ⟨0, by omega, rfl, HJ.out, HR.out, HF.out⟩
      case round =>
        obtain ⟨j, hj, rfl, hjs, hrow, hfr⟩ := hrel
        have HJ := Hd.mk hjs
        have HR := Hd.mk hrow
        have HF := Hd.mk hfr
        have HRI := Hd.mk (runS_inv HP.out J j)
        clear hjs hrow hfr
        by_cases hlt : j < 5000
        · by_cases hJ0 : 0 < J
          · obtain ⟨k, hk⟩ : ∃ k, j % J = k := ⟨_, rfl⟩
            have hkJ : k < J := by rw [← hk]; exact Nat.mod_lt _ hJ0
            obtain ⟨p, hp⟩ : ∃ p, ps[k]? = some p := ⟨_, List.getElem?_eq_getElem (by rw [HPL.out]; exact hkJ)⟩
            obtain ⟨gj, hA, -⟩ := HG.out (by omega)
            subst hA
            have b0c : wr.cell? ⟨gj, k, none⟩ = some (.pointer (some ⟨p, 0, none⟩)) := own_cell (v := pV p) HR.out (by rw [List.getElem?_map, hp]; rfl)
            have hrem : ((j : Int) % (J : Int)) = (k : Int) := by rw [← hk]; omega
            have hremt : Int.tmod (j : Int) (J : Int) = (k : Int) := by rw [Int.tmod_eq_emod_of_nonneg (by omega)]; exact hrem
            have hj30 := HJ30.out
            have HPK := Hd.mk hp
            have HKK := Hd.mk hk
            clear hk hp
            go_wp2_with fail
            clear b0c hrem hremt
            refine (js_step (k := k) HJ.out HPK.out (by have := runS_hist x J j; have := HH3.out; omega)).mono ?_
            rintro r wn ⟨rfl, hj2, hf⟩
            have HF := Hd.mk (hf.fr HF.out HB0.out)
            have HR := Hd.mk (own_frn HR.out hf (by unfold Tok; decide))
            have HJ : Hd (JsAt b0 wn C (runS x J (j + 1)) ps) := Hd.mk (by show JsAt b0 wn C ((runS x J j).step (j % J)) ps; rw [HKK.out]; exact hj2)
            clear hj2 hf
            go_wp2
            go_roundw
            case rel => exact ⟨j + 1, by omega, by go_num, HJ.out, HR.out, HF.out⟩
            case measure => simp [intOf]; omega
          · have hJz : J = 0 := by omega
            subst hJz
            have HJ : Hd (JsAt b0 wr C (runS x 0 (j + 1)) ps) := Hd.mk (by have := HJ.out; rw [runS_zero HXL.out] at this ⊢; exact this)
            go_wp2
            go_roundw
            case rel => exact ⟨j + 1, by omega, by go_num, HJ.out, HR.out, HF.out⟩
            case measure => simp [intOf]; omega
        · have hj5 : j = 5000 := by omega
          subst hj5
          obtain ⟨y, hy⟩ : ∃ y, runS x J 5000 = y := ⟨_, rfl⟩
          rw [hy] at HJ HRI HDN
          have HYL : Hd (y.js.length = J) := Hd.mk (HRI.out.2.trans HXL.out)
          have HYH : Hd (y.hist.length ≤ 5300) := Hd.mk (by rw [← hy]; have := runS_hist x J 5000; have := HH3.out; omega)
          have hj30 := HJ30.out
          clear hy hlt hj
          go_wp2_with fail
          go_loopw [15, 16] (fun mv i wr => ∃ (j : Nat), j ≤ J ∧ i = .int .i64 j ∧ mv = .int .i64 (evSum y j) ∧ JsAt b0 wr C y ps ∧ wr.ownsRow C.n0 29 1 (.slice Aj J cj) J (ps.map pV) ∧ Fr [] W wr) (fun _ i _ => 31 - (intOf i).toNat)
          case atStart => exact ⟨0, Nat.zero_le _, rfl, rfl, HJ.out, HR.out, HF.out⟩
          case round =>
            obtain ⟨k, hkl, rfl, rfl, hjs, hrow, hfr⟩ := hrel
            have HJ := Hd.mk hjs
            have HR := Hd.mk hrow
            have HF := Hd.mk hfr
            clear hjs hrow hfr
            by_cases hkJ : k < J
            · obtain ⟨p, hp⟩ : ∃ p, ps[k]? = some p := ⟨_, List.getElem?_eq_getElem (by rw [HPL.out]; exact hkJ)⟩
              obtain ⟨gj, hA, -⟩ := HG.out (by omega)
              subst hA
              have b0c : wr.cell? ⟨gj, k, none⟩ = some (.pointer (some ⟨p, 0, none⟩)) := own_cell (v := pV p) HR.out (by rw [List.getElem?_map, hp]; rfl)
              obtain ⟨yj, hyj⟩ : ∃ z, y.js[k]? = some z := ⟨_, List.getElem?_eq_getElem (by rw [HYL.out]; exact hkJ)⟩
              have hjl : yj.left = [] := HDN.out yj (List.mem_of_getElem? hyj)
              have hok := HRI.out.1.job k yj hyj
              have hev := done_ev hok hjl
              have HYJ := Hd.mk hyj
              have HJL := Hd.mk hjl
              have HPK := Hd.mk hp
              have HKD := Hd.mk hok.kd
              clear hyj hjl hok hp
              go_wp2_with fail
              refine (js_events (k := k) (y := yj) HJ.out HPK.out HYJ.out (by have := HYH.out; omega)).mono ?_
              rintro r wn ⟨ve, ev, rfl, hown, ht, hed, hf⟩
              have HJ := Hd.mk (HJ.out.fr0 hf)
              have HR := Hd.mk (own_fr HR.out hf (by simp))
              have HF := Hd.mk (HF.out.trans hf)
              have htl : ev.length = yj.ev.length := by rw [← ht, tells_len]
              have hei : ∀ (q : Nat) (z : Ev), ev[q]? = some z → (leftD yj.d n)[q]? = some z.i := fun q z hq => by
                rw [← hev, ← ht]
                unfold tells
                rw [List.map_map, List.getElem?_map, hq]; rfl
              have hL : ev.length = (leftD yj.d n).length := by rw [htl, ← hev, List.length_map]
              have hL1 : 1 ≤ ev.length ∧ ev.length ≤ 4 := by
                rw [hL]
                have h1 := HN4.out
                unfold leftD
                split <;> simp <;> omega
              obtain ⟨ge, ce, hve, -, -⟩ := own_form hown (by omega)
              subst hve
              obtain ⟨L, hLL⟩ : ∃ L, ev.length = L := ⟨_, rfl⟩
              rw [hLL] at hown hL hL1 ⊢
              have HEC : Hd (∀ (q : Nat) (z : Ev) (k : Nat) (u : Value), ev[q]? = some z → k < 20 → z.c[k]? = some u → wn.cell? ⟨ge, q * 20 + k, none⟩ = some u) := Hd.mk fun q z k u hq hk hu => evrow_cell hown hq hk hu
              have hks : yj.d.kind = 4 ∧ L = n ∨ yj.d.kind ≠ 4 ∧ L = 1 := by
                rw [hL]
                unfold leftD
                by_cases h4 : yj.d.kind = 4
                · exact .inl ⟨h4, by rw [if_pos h4, List.length_range]⟩
                · exact .inr ⟨h4, by rw [if_neg h4]; rfl⟩
              have HEI : Hd (yj.d.kind = 4 → ∀ q, q < L → ∃ z : Ev, ev[q]? = some z ∧ z.i = q) := Hd.mk (fun h4 q hq => by
                obtain ⟨z, hz⟩ : ∃ z, ev[q]? = some z := ⟨_, List.getElem?_eq_getElem (by rw [hLL]; exact hq)⟩
                refine ⟨z, hz, ?_⟩
                have h1 := hei q z hz
                unfold leftD at h1
                rw [if_pos h4, List.getElem?_range (by have h2 := hL; unfold leftD at h2; rw [if_pos h4, List.length_range] at h2; omega)] at h1
                exact (Option.some.inj h1).symm)
              obtain ⟨z0, hz0⟩ : ∃ z, ev[0]? = some z := ⟨_, List.getElem?_eq_getElem (by omega)⟩
              have k0 : wn.cell? ⟨ge, 0, none⟩ = some (.int .i64 yj.d.kind) := by
                have h1 := HEC.out 0 z0 0 _ hz0 (by omega) rfl
                rw [hed z0 (List.mem_of_getElem? hz0)] at h1
                simpa using h1
              have hsum : evSum y (k + 1) = evSum y k + L := by rw [evSum_succ HYJ.out, ← htl, hLL]
              have HSM := Hd.mk hsum
              have hsl := evSum_le HRI.out.1 (k + 1)
              have hyh := HYH.out
              have b1c : wn.cell? ⟨gj, k, none⟩ = some (.pointer (some ⟨p, 0, none⟩)) := own_cell (v := pV p) HR.out (by rw [List.getElem?_map, HPK.out]; rfl)
              have hfin := js_fin HJ.out HPK.out HYJ.out HJL.out
              unfold pV at hfin
              have HFI := Hd.mk hfin
              clear hf hown ht hed htl hei hL hLL hev hz0 hfin b0c
              go_wp2_with fail
              clear b1c
              refine HFI.out.mono ?_
              rintro r w5 ⟨rfl, rfl⟩
              rcases hks with ⟨hk4, hLn⟩ | ⟨hk4, hL1'⟩
              · have hkb : (yj.d.kind == 4) = true := by rw [beq_iff_eq]; exact hk4
                have hlb : ((L : Int) == 0) = false := by rw [beq_eq_false_iff_ne]; omega
                rw [hk4] at k0
                have HE4 := Hd.mk (HEI.out hk4)
                clear hk4
                have hLs := hLn.symm
                clear hLn
                subst hLs
                go_wp2_with fail
                go_loopw [18] (fun i wz => ∃ (q : Nat), q ≤ n ∧ i = .int .i64 q ∧ wz = w5) (fun i _ => n - (intOf i).toNat)
                case atStart => exact ⟨0, Nat.zero_le _, rfl, rfl⟩
                case round =>
                  obtain ⟨q, hq, rfl, rfl⟩ := hrel
                  by_cases hql : q < n
                  · obtain ⟨z, hz, hzi⟩ := HE4.out q hql
                    have k9 : wr.cell? ⟨ge, q * 20 + 9, none⟩ = some (.int .i64 q) := by
                      have h1 := HEC.out q z 9 _ hz (by omega) rfl
                      have h2 : (Ev.c z)[9]? = some (.int .i64 z.i) := rfl
                      rw [hzi] at h1
                      exact h1
                    clear hz hzi
                    go_wp2
                    go_roundw
                    case rel => exact ⟨q + 1, by omega, by go_num, trivial⟩
                    case measure => simp [intOf]; omega
                  · have hqe : n = q := by omega
                    subst hqe
                    go_wp2
                    go_roundw
                    case rel =>
                      (repeat apply Exists.intro)
                      exact ⟨⟨k + 1, by omega, by go_num, by rw [HSM.out]; go_num, HJ.out, HR.out, HF.out⟩, rfl⟩
                    case measure =>
                      show 31 - (intOf (.int .i64 ((k : Int) + 1))).toNat < 31 - (intOf (.int .i64 (k : Int))).toNat
                      simp [intOf]; omega
              · have hkb : (yj.d.kind == 4) = false := by rw [beq_eq_false_iff_ne]; exact hk4
                subst hL1'
                clear hk4
                go_wp2_with fail
                go_loopw [18] (fun i wz => ∃ (q : Nat), q ≤ 1 ∧ i = .int .i64 q ∧ wz = w5) (fun i _ => 1 - (intOf i).toNat)
                case atStart => exact ⟨0, Nat.zero_le _, rfl, rfl⟩
                case round =>
                  obtain ⟨q, hq, rfl, rfl⟩ := hrel
                  by_cases hql : q < 1
                  · go_wp2
                    go_roundw
                    case rel => exact ⟨q + 1, by omega, by go_num, trivial⟩
                    case measure => simp [intOf]; omega
                  · have hqe : q = 1 := by omega
                    subst hqe
                    go_wp2
                    go_roundw
                    case rel =>
                      (repeat apply Exists.intro)
                      exact ⟨⟨k + 1, by omega, by go_num, by rw [HSM.out]; go_num, HJ.out, HR.out, HF.out⟩, rfl⟩
                    case measure =>
                      show 31 - (intOf (.int .i64 ((k : Int) + 1))).toNat < 31 - (intOf (.int .i64 (k : Int))).toNat
                      simp [intOf]; omega
            · have hke : k = J := by omega
              subst hke
              have HES : Hd (evSum y k = y.hist.length) := Hd.mk (by rw [← HYL.out]; exact evSum_all HRI.out.1)
              clear hkl hkJ
              go_wp2_with fail
              have hhc := js_history HJ.out (by have := HYH.out; omega)
              unfold pV at hhc
              refine hhc.mono ?_
              rintro r wk ⟨v2, ev2, rfl, ho, ht, hf⟩
              have hl2 : ev2.length = y.hist.length := by rw [← ht, List.length_map]
              have HF := Hd.mk (HF.out.trans hf)
              obtain ⟨A2, c2, hv2⟩ : ∃ A c, v2 = .slice A (y.hist.length) c := by
                rcases ho.2 with ⟨e, e2⟩ | ⟨g, cap, cur, e, -⟩
                · exact ⟨_, _, by rw [e, ← hl2, e2]⟩
                · exact ⟨_, cap, by rw [e, hl2]⟩
              subst hv2
              rw [HES.out]
              clear ho ht hf hl2 hhc
              go_wp2
              go_ret
              exact ⟨rfl, HF.out⟩
end Go.Proofs.Ytogjfcmclfehkaa
namespace Go.Proofs.Ytogjfcmclfehkaa
open Go Go.RowKit Go.ChangeShapes Go.WideShapes Go.Deep Go.Proofs.MapL PPM Go.Proofs.YtogjfcmclfehkaaW.PrintWords

theorem u8_of {n : Int} (h : (Lit.int .u8 n).wf = true) : 0 ≤ n ∧ n < 256 := by
  simp [Lit.wf, IntKind.min, IntKind.max, IntKind.signed, IntKind.bits] at h
  omega
theorem turns_of {w : World} {v : Value} {xs : List Int} (h : (Kd.slice 5 (Kd.int .u8)).K w xs [v]) (hg : ∀ x ∈ xs, (Lit.int .u8 x).wf = true) : ∃ ts, TurnsAt w v ts := by
  obtain ⟨A, c, hv, hl, hlen, hmax, hc⟩ := h
  obtain rfl : v = .slice A xs.length c := by simpa using hv
  refine ⟨xs.map Int.toNat, by rw [List.length_map]; omega, ⟨A, c, by rw [List.length_map], fun h0 => ?_⟩, fun t ht => ?_⟩
  · rw [List.length_map] at h0
    obtain ⟨ad, rfl, hc2⟩ := hc (by omega)
    have hat : ∀ i (hi : i < xs.length), w.cell? (ad.add (i * 1 + 0)) = some (.int .u8 xs[i]) := fun i hi => by
      obtain ⟨cs, -, hk, hcc⟩ := hc2 i _ (List.getElem?_eq_getElem hi)
      obtain rfl : cs = [.int .u8 xs[i]] := hk
      exact hcc 0 _ rfl
    have h1 := hat 0 h0
    obtain ⟨b, off, spot⟩ := ad
    have hs := at_none (a := ⟨b, off, spot⟩) (by simpa using h1)
    dsimp only at hs
    subst hs
    refine ⟨b, off, rfl, fun i hi => ?_⟩
    rw [List.length_map] at hi
    have h2 := hat i hi
    rw [add_at] at h2
    have h3 := (u8_of (hg _ (List.getElem_mem hi))).1
    rw [List.getElem_map]
    rw [show ((xs[i].toNat : Nat) : Int) = xs[i] by omega]
    simpa using h2
  · obtain ⟨x, hx, rfl⟩ := List.mem_map.1 ht
    have := u8_of (hg x hx)
    omega
set_option maxRecDepth 100000 in
theorem arr2_of {H : Type} {enc : TypeId × Value → H} {w : World} {base : Nat} {spare : Nat → Bool} {held : Bool} {v : Value} {d : DataW H} {ps : List MemPlace} (h : DataW.Trod enc Try.prog w base spare held 22 v d ps) {r : Reach} {base' : Nat} (hv : Value.okWide Try.prog w r base' 22 v) :
    ∃ a b : Int, v = .agg #[.int .u8 a, .int .u8 b] ∧ (0 ≤ a ∧ a < 256) ∧ (0 ≤ b ∧ b < 256) := by
  obtain ⟨fuel, hf⟩ := h
  obtain ⟨xs, m, -, -, hlen, hxl, hel⟩ := DataW.trod_array Try.underlying22 hf
  have c5 : Try.prog.cellsOf 5 = 1 := by kernel_rfl
  have c22 : Try.prog.cellsOf 22 = 2 := by kernel_rfl
  have hE0 := hel 0 (by omega)
  have hE1 := hel 1 (by omega)
  rw [List.getElem?_eq_getElem (by omega), c5] at hE0 hE1
  obtain ⟨a, e0, -, wa⟩ := DataW.trod_int Try.underlying5 hE0
  obtain ⟨b, e1, -, wb⟩ := DataW.trod_int Try.underlying5 hE1
  obtain ⟨cs, rfl, hsz⟩ : ∃ cs, v = .agg cs ∧ cs.size = 2 := by
    unfold Value.okWide at hv
    rw [Try.underlying22] at hv
    obtain ⟨cs, h1, h2, -⟩ := hv
    exact ⟨cs, h1, h2.trans c22⟩
  have hcl : (Value.agg cs).cells.toList = cs.toList := rfl
  rw [hcl] at e0 e1
  have hl2 : cs.toList.length = 2 := by simpa using hsz
  obtain ⟨p, q, hpq⟩ : ∃ p q, cs.toList = [p, q] := by
    match hc : cs.toList, hl2 with
    | [p, q], _ => exact ⟨p, q, rfl⟩
  rw [hpq] at e0 e1
  simp at e0 e1
  refine ⟨a, b, ?_, u8_of wa, u8_of wb⟩
  congr 1
  apply Array.toList_inj.1
  rw [hpq, e0, e1]
end Go.Proofs.Ytogjfcmclfehkaa
