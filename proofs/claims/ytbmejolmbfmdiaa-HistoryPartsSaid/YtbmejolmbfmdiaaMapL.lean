import Derived.Maps.OwnSet
import Derived.Maps.RangeWalk
namespace Go.Proofs.MapL
open Go Go.Maps

/-- An element read as itself. -/
def heldR (v : Value) : Option (DataW Value × List MemPlace) := some (.held v, [])
section
variable {Q V : Type} [DecidableEq Q]
/-- What a list of keys and values has at a key. -/
def findL (L : List (Q × V)) (x : Q) : Option V := (L.find? fun p => decide (p.1 = x)).map (·.2)
def putL (L : List (Q × V)) (x : Q) (v : V) : List (Q × V) := if (findL L x).isSome then L.map fun p => if p.1 = x then (x, v) else p else L ++ [(x, v)]
def delL (L : List (Q × V)) (x : Q) : List (Q × V) := L.filter fun p => decide (p.1 ≠ x)
/-- A map's datum holds just what the list has. -/
structure Rel (el : Q → Lit) (ev : V → Value) (D : DataW Value) (L : List (Q × V)) : Prop where
  has : ∀ x, Maps.has D (el x) = (findL L x).isSome
  at_ : ∀ x z, D.atKey (el x) (.held z) = .held (((findL L x).map ev).getD z)
  size : Maps.size D = L.length
  apart : L.Pairwise fun p q => p.1 ≠ q.1
/-- Block b is a map that holds just what the list has. -/
def mapIs (el : Q → Lit) (ev : V → Value) (P : Program) (k : TypeId) (w : World) (b : Nat) (L : List (Q × V)) : Prop := ∃ D, w.ownsMap P k heldR b L.length D ∧ Rel el ev D L

variable {el : Q → Lit} {ev : V → Value} {P : Program} {k : TypeId} {w : World} {b : Nat} {L : List (Q × V)}

theorem own_size {n : Nat} {D : DataW Value} (h : w.ownsMap P k heldR b n D) : w.ownsMap P k heldR b (Maps.size D) D := by
  obtain ⟨es, clock, hb, F, hs, rfl⟩ := h
  exact ⟨es, clock, hb, F, by simp [Maps.size, length_sorted], rfl⟩
theorem mapIs.lt (h : mapIs el ev P k w b L) : b < w.heap.size := by obtain ⟨D, h, _⟩ := h; exact h.lt
theorem mapIs.kept {w' : World} {row : Option Nat} (h : mapIs el ev P k w b L) (hg : w.grownBy w' row) (hne : some b ≠ row) : mapIs el ev P k w' b L := by
  obtain ⟨D, h, hr⟩ := h
  exact ⟨D, h.kept hg hne, hr⟩
theorem mapIs_block {w' : World} (h : mapIs el ev P k w b L) (hb : w'.heap[b]? = w.heap[b]?) : mapIs el ev P k w' b L := by
  obtain ⟨D, ⟨es, clock, h1, h2⟩, hr⟩ := h
  exact ⟨D, ⟨es, clock, hb.trans h1, h2⟩, hr⟩
theorem mapIs_made (el : Q → Lit) (ev : V → Value) (P : Program) (k : TypeId) (w : World) : mapIs el ev P k (w.alloc (.map #[] 0)) w.heap.size [] :=
  ⟨.map [], World.ownsMap_made w P k heldR, ⟨fun _ => rfl, fun _ _ => rfl, rfl, List.Pairwise.nil⟩⟩
theorem held_inv {v x : Value} {ps : List MemPlace} (h : heldR v = some (.held x, ps)) : v = x := by
  unfold heldR at h
  have := congrArg Prod.fst (Option.some.inj h)
  injection this
theorem mapIs.look_ok {t e : TypeId} (h : mapIs el ev P k w b L) (K : Keyed P k) (ht : P.underlying t = some (.map k e)) {z : Value} (hz : (zeroValue e).run P w = .ok z w) {key : Value} {x : Q} (hkey : keyOf P k key = some (el x)) :
    (Instr.lookup t (.map (some b)) key true).run P w = .ok (.tuple #[((findL L x).map ev).getD z, .bool (findL L x).isSome]) w := by
  obtain ⟨D, h, hr⟩ := h
  obtain ⟨v, ps, hrun, hv⟩ := h.look_ok K ht hz (zd := .held z) (zp := []) rfl hkey
  rw [hr.at_] at hv
  rw [hrun, hr.has, held_inv hv]
theorem mapIs.look {t e : TypeId} (h : mapIs el ev P k w b L) (K : Keyed P k) (ht : P.underlying t = some (.map k e)) {z : Value} (hz : (zeroValue e).run P w = .ok z w) {key : Value} {x : Q} (hkey : keyOf P k key = some (el x)) :
    (Instr.lookup t (.map (some b)) key false).run P w = .ok (((findL L x).map ev).getD z) w := by
  obtain ⟨D, h, hr⟩ := h
  obtain ⟨v, ps, hrun, hv⟩ := h.lookup K ht hz (zd := .held z) (zp := []) rfl hkey
  rw [hr.at_] at hv
  rw [hrun, held_inv hv]
theorem mapIs.len {t e : TypeId} (h : mapIs el ev P k w b L) (ht : P.underlying t = some (.map k e)) (ty : TypeId) : (Builtin.len_ #[t] ty #[.map (some b)]).run P w = .ok (.int .i64 L.length) w := by
  obtain ⟨D, h, hr⟩ := h
  rw [h.len ht ty, hr.size]

theorem find_none {x : Q} (h : findL L x = none) : ∀ p ∈ L, p.1 ≠ x := by
  intro p hp he
  unfold findL at h
  rw [Option.map_eq_none_iff, List.find?_eq_none] at h
  exact h p hp (by simp [he])
theorem find_app_other {x y : Q} {v : V} (hne : y ≠ x) : findL (L ++ [(x, v)]) y = findL L y := by
  unfold findL
  rw [List.find?_append]
  have e : List.find? (fun p => decide (p.1 = y)) [(x, v)] = none := by simp [List.find?, Ne.symm hne]
  rw [e, Option.or_none]
theorem find_app_same {x : Q} {v : V} (h : findL L x = none) : findL (L ++ [(x, v)]) x = some v := by
  unfold findL at h ⊢
  rw [Option.map_eq_none_iff] at h
  rw [List.find?_append, h]
  simp [List.find?]
theorem find_map_other {x y : Q} {v : V} (hne : y ≠ x) : findL (L.map fun p => if p.1 = x then (x, v) else p) y = findL L y := by
  unfold findL
  induction L with
  | nil => rfl
  | cons p L ih =>
    rw [List.map_cons, List.find?_cons, List.find?_cons]
    by_cases hp : p.1 = x
    · rw [if_pos hp]
      have e1 : decide ((x, v).1 = y) = false := decide_eq_false (Ne.symm hne)
      have e2 : decide (p.1 = y) = false := by rw [hp]; exact decide_eq_false (Ne.symm hne)
      rw [e1, e2]; exact ih
    · rw [if_neg hp]
      cases decide (p.1 = y)
      · exact ih
      · rfl
theorem find_map_same {x : Q} {v : V} (h : (findL L x).isSome) : findL (L.map fun p => if p.1 = x then (x, v) else p) x = some v := by
  unfold findL at h ⊢
  induction L with
  | nil => cases h
  | cons p L ih =>
    rw [List.map_cons, List.find?_cons]
    rw [List.find?_cons] at h
    by_cases hp : p.1 = x
    · rw [if_pos hp]; simp
    · rw [if_neg hp]
      have e2 : decide (p.1 = x) = false := decide_eq_false hp
      rw [e2] at h ⊢
      exact ih h
theorem find_put (x y : Q) (v : V) : findL (putL L x v) y = if y = x then some v else findL L y := by
  unfold putL
  by_cases h : (findL L x).isSome
  · rw [if_pos h]
    by_cases hy : y = x
    · subst hy; rw [if_pos rfl, find_map_same h]
    · rw [if_neg hy, find_map_other hy]
  · rw [if_neg h]
    have h2 : findL L x = none := by simpa using h
    by_cases hy : y = x
    · subst hy; rw [if_pos rfl, find_app_same h2]
    · rw [if_neg hy, find_app_other hy]
theorem find_del (x y : Q) : findL (delL L x) y = if y = x then none else findL L y := by
  unfold findL delL
  induction L with
  | nil => split <;> rfl
  | cons p L ih =>
    rw [List.filter_cons, List.find?_cons]
    by_cases hp : p.1 = x
    · rw [if_neg (by simpa using hp), ih]
      by_cases hy : y = x
      · rw [if_pos hy, if_pos hy]
      · rw [if_neg hy, if_neg hy]
        have e : decide (p.1 = y) = false := by rw [hp]; exact decide_eq_false (Ne.symm hy)
        rw [e]
    · rw [if_pos (by simpa using hp), List.find?_cons]
      by_cases hpy : p.1 = y
      · have e : decide (p.1 = y) = true := decide_eq_true hpy
        rw [e, if_neg (by rw [← hpy]; exact hp)]
      · have e : decide (p.1 = y) = false := decide_eq_false hpy
        rw [e]; exact ih
theorem put_len (x : Q) (v : V) : (putL L x v).length = if (findL L x).isSome then L.length else L.length + 1 := by
  unfold putL
  split <;> simp
theorem put_apart (h : L.Pairwise fun p q => p.1 ≠ q.1) (x : Q) (v : V) : (putL L x v).Pairwise fun p q => p.1 ≠ q.1 := by
  unfold putL
  split
  · rw [List.pairwise_map]
    refine h.imp ?_
    intro p q hpq
    split
    · split
      · rename_i h1 h2; exact fun _ => hpq (h1.trans h2.symm)
      · rename_i h1 h2; exact fun e => h2 e.symm
    · split
      · rename_i h1 h2; exact fun e => h1 e
      · exact hpq
  · rename_i hn
    rw [List.pairwise_append]
    refine ⟨h, by simp, ?_⟩
    intro p hp q hq
    rw [List.mem_singleton.1 hq]
    exact find_none (by simpa using hn) p hp
theorem del_apart (h : L.Pairwise fun p q => p.1 ≠ q.1) (x : Q) : (delL L x).Pairwise fun p q => p.1 ≠ q.1 := h.filter _
theorem del_len (h : L.Pairwise fun p q => p.1 ≠ q.1) (x : Q) : (delL L x).length + (if (findL L x).isSome then 1 else 0) = L.length := by
  unfold delL findL
  induction L with
  | nil => rfl
  | cons p L ih =>
    have hL := ih (List.pairwise_cons.1 h).2
    have hp0 := (List.pairwise_cons.1 h).1
    rw [List.filter_cons, List.find?_cons, List.length_cons]
    by_cases hp : p.1 = x
    · rw [if_neg (by simpa using hp)]
      have e : decide (p.1 = x) = true := decide_eq_true hp
      have hn : L.find? (fun p => decide (p.1 = x)) = none := by
        rw [List.find?_eq_none]
        intro q hq hqx
        exact hp0 q hq (hp.trans (of_decide_eq_true hqx).symm)
      rw [hn] at hL
      rw [e]
      simpa using hL
    · rw [if_pos (by simpa using hp), List.length_cons]
      have e : decide (p.1 = x) = false := decide_eq_false hp
      rw [e]
      dsimp only
      omega
/-- 'm[k] = v'. -/
theorem mapIs.update {t e : TypeId} (hel : Function.Injective el) (h : mapIs el ev P k w b L) (K : Keyed P k) (ht : P.underlying t = some (.map k e)) (hn : L.length < maxLen) {key : Value} {x : Q} (hkey : keyOf P k key = some (el x)) (hkl : WideAt.IsKeyLit (el x)) (v : V) :
    ∃ w', (Instr.mapUpdate t (.map (some b)) key (ev v)).run P w = .ok () w' ∧ mapIs el ev P k w' b (putL L x v) ∧ w.mapTurned w' b := by
  obtain ⟨D, h, hr⟩ := h
  obtain ⟨w', h1, h2, h3⟩ := h.store K ht hn (d := .held (ev v)) (ps := []) hkey rfl
  have ht2 := h.tidy K
  have hsz : Maps.size (D.put (el x) (.held (ev v))) = (putL L x v).length := by
    rw [Maps.size_put ht2, hr.has, hr.size, put_len]
  refine ⟨w', h1, ⟨_, by rw [← hsz]; exact own_size h2, ?_, ?_, hsz, put_apart hr.apart x v⟩, h3⟩
  · intro y
    rw [find_put]
    by_cases hy : y = x
    · subst hy; rw [if_pos rfl, Maps.has_put_same h.isMap hkl]; rfl
    · rw [if_neg hy, Maps.has_put_other (fun e => hy (hel e)), hr.has]
  · intro y z
    rw [find_put]
    by_cases hy : y = x
    · subst hy; rw [if_pos rfl, Maps.atKey_put_same h.isMap hkl]; rfl
    · rw [if_neg hy, Maps.atKey_put_other (fun e => hy (hel e)), hr.at_]
/-- 'delete(m, k)'. -/
theorem mapIs.drop {t e : TypeId} (hel : Function.Injective el) (h : mapIs el ev P k w b L) (K : Keyed P k) (ht : P.underlying t = some (.map k e)) {key : Value} {x : Q} (hkey : keyOf P k key = some (el x)) (ty : TypeId) :
    ∃ w', (Builtin.delete_ #[t, k] ty #[.map (some b), key]).run P w = .ok (.tuple #[]) w' ∧ mapIs el ev P k w' b (delL L x) ∧ w.mapTurned w' b := by
  obtain ⟨D, h, hr⟩ := h
  obtain ⟨w', h1, h2, h3⟩ := h.drop K ht hkey ty
  have ht2 := h.tidy K
  have hsz : Maps.size (D.del (el x)) = (delL L x).length := by
    have h4 := Maps.size_del (k := el x) ht2
    have h5 := del_len hr.apart x
    rw [hr.has, hr.size] at h4
    omega
  refine ⟨w', h1, ⟨_, by rw [← hsz]; exact own_size h2, ?_, ?_, hsz, del_apart hr.apart x⟩, h3⟩
  · intro y
    rw [find_del]
    by_cases hy : y = x
    · subst hy; rw [if_pos rfl, Maps.has_del_same]; rfl
    · rw [if_neg hy, Maps.has_del_other (fun e => hy (hel e)), hr.has]
  · intro y z
    rw [find_del]
    by_cases hy : y = x
    · subst hy; rw [if_pos rfl, Maps.atKey_del_same]; rfl
    · rw [if_neg hy, Maps.atKey_del_other (fun e => hy (hel e)), hr.at_]
end
end Go.Proofs.MapL
namespace Go.Proofs.MapL
open Go Go.Maps
section
variable {Q V : Type} [DecidableEq Q] {el : Q → Lit} {ev : V → Value} {P : Program} {k : TypeId} {w : World} {b r : Nat} {L : List (Q × V)}
/-- Block b is a map that holds just what the list has; block r ranges over it, and has met these. -/
def rangeIs (el : Q → Lit) (ev : V → Value) (P : Program) (k : TypeId) (w : World) (b r : Nat) (L done : List (Q × V)) : Prop :=
  ∃ D left cnt, w.ranges P k heldR b r L.length D left cnt ∧ Rel el ev D L ∧ done.Pairwise (fun p q => p.1 ≠ q.1) ∧ (∀ p ∈ done, p ∈ L) ∧ (∀ p ∈ L, left (el p.1) = decide (∀ q ∈ done, q.1 ≠ p.1))
theorem rangeIs.map {done : List (Q × V)} (h : rangeIs el ev P k w b r L done) : mapIs el ev P k w b L := by
  obtain ⟨D, left, cnt, h, hr, -⟩ := h
  exact ⟨D, h.owns, hr⟩
theorem rangeIs.ne {done : List (Q × V)} (h : rangeIs el ev P k w b r L done) : r ≠ b := by
  obtain ⟨D, left, cnt, h, -⟩ := h
  exact h.ne
theorem rangeIs.rlt {done : List (Q × V)} (h : rangeIs el ev P k w b r L done) : r < w.heap.size := by
  obtain ⟨D, left, cnt, ⟨es, clock, since, seen, c0, h1, h2, h3, h4, h5, -⟩, -⟩ := h
  exact (Array.getElem?_eq_some_iff.1 h5).1
theorem rangeIs.iter {done : List (Q × V)} (h : rangeIs el ev P k w b r L done) : ∃ m s n c, w.heap[r]? = some (.mapIter m s n c) := by
  obtain ⟨D, left, cnt, ⟨es, clock, since, seen, c0, h1, h2, h3, h4, h5, -⟩, -⟩ := h
  exact ⟨_, _, _, _, h5⟩
theorem rangeIs.keep {w' : World} {done : List (Q × V)} (h : rangeIs el ev P k w b r L done) (hb : w'.heap[b]? = w.heap[b]?) (hr : w'.heap[r]? = w.heap[r]?) : rangeIs el ev P k w' b r L done ∧ w'.rangeLeft b r = w.rangeLeft b r := by
  obtain ⟨D, left, cnt, ⟨es, clock, since, seen, c0, h1, h2, h3, h4, h5, h6⟩, hh⟩ := h
  exact ⟨⟨D, left, cnt, ⟨es, clock, since, seen, c0, hb.trans h1, h2, h3, h4, hr.trans h5, h6⟩, hh⟩, by unfold World.rangeLeft; rw [hb, hr]⟩
theorem find_mem {x : Q} {v : V} (h : findL L x = some v) : (x, v) ∈ L := by
  unfold findL at h
  rw [Option.map_eq_some_iff] at h
  obtain ⟨p, h1, rfl⟩ := h
  have h2 := List.find?_some h1
  have h3 := List.mem_of_find?_eq_some h1
  have e : p.1 = x := by simpa using h2
  subst e
  exact h3
theorem mem_find {x : Q} {v : V} (ha : L.Pairwise fun p q => p.1 ≠ q.1) (h : (x, v) ∈ L) : findL L x = some v := by
  unfold findL
  induction L with
  | nil => cases h
  | cons p L ih =>
    rw [List.find?_cons]
    rcases List.mem_cons.1 h with rfl | h'
    · simp
    · have hne := (List.pairwise_cons.1 ha).1 _ h'
      have e : decide (p.1 = x) = false := decide_eq_false hne
      rw [e]
      exact ih (List.pairwise_cons.1 ha).2 h'
/-- 'range m'. -/
theorem map_range {ops : Array Oper} {rest : List Oper} {o : Oper} {a : Act} {QQ : Exit → Act → World → Prop} (hg : o.guard = none) (m : Operand) (t : TypeId) (hop : o.op = Op.range t m) (e : TypeId) (K : Keyed P k) (ht : P.underlying t = some (.map k e))
    (hm : a.eval m = .map (some b)) (hown : mapIs el ev P k w b L)
    (hK : ∀ w', rangeIs el ev P k w' b w.heap.size L [] → w.grownBy w' none → w'.heap.size = w.heap.size + 1 → wpList P ops QQ rest (a.put o.dst (.pointer (some ⟨w.heap.size, 0, none⟩))) w') :
    wpList P ops QQ (o :: rest) a w := by
  obtain ⟨D, hown, hr⟩ := hown
  refine wpList_range_own w hg m t hop k e K ht heldR b L.length D hm hown ?_
  intro w' h1 h2 h3
  refine hK w' ⟨D, _, _, h1, hr, .nil, by simp, ?_⟩ h2 h3
  intro p hp
  rw [hr.has, mem_find hr.apart (show (p.1, p.2) ∈ L from hp)]
  simp
/-- The step. -/
theorem map_next {ops : Array Oper} {rest : List Oper} {o : Oper} {a : Act} {QQ : Exit → Act → World → Prop} (hel : Function.Injective el) (hlit : ∀ q, WideAt.IsKeyLit (el q)) (kv : Q → Value) (hinv : ∀ key kl, keyOf P k key = some kl → ∃ q, key = kv q ∧ kl = el q)
    (hg : o.guard = none) (it : Operand) (hop : o.op = Op.next it false) (K : Keyed P k) {done : List (Q × V)} (hit : a.eval it = .pointer (some ⟨r, 0, none⟩)) (h : rangeIs el ev P k w b r L done)
    (hDone : (∀ p ∈ L, p ∈ done) → wpList P ops QQ rest (a.put o.dst (.tuple #[.bool false])) w)
    (hMore : ∀ q v w', (q, v) ∈ L → (∀ p ∈ done, p.1 ≠ q) → rangeIs el ev P k w' b r L (done ++ [(q, v)]) → w'.rangeLeft b r < w.rangeLeft b r → w.grownBy w' (some r) → w'.heap.size = w.heap.size →
      (Instr.entry (.pointer (some ⟨r, 0, none⟩))).run P w' = .ok (.tuple #[kv q, ev v]) w' → wpList P ops QQ rest (a.put o.dst (.tuple #[.bool true, kv q, ev v])) w') :
    wpList P ops QQ (o :: rest) a w := by
  obtain ⟨D, left, cnt, h, hr, hp, hs, hl⟩ := h
  refine wpList_next_ranges w hg it hop k K heldR kv (fun v : Value => v) (fun key kl hk => by obtain ⟨q, e, -⟩ := hinv key kl hk; exact ⟨q, e⟩) (fun v _ _ => ⟨v, rfl⟩) b r L.length D left cnt hit h ?_ ?_
  · intro _ h0
    refine hDone fun p hpL => ?_
    have h1 := hl p hpL
    rw [h0] at h1
    have h2 : ¬ ∀ q ∈ done, q.1 ≠ p.1 := of_decide_eq_false h1.symm
    rcases Classical.em (p ∈ done) with h4 | h4
    · exact h4
    exfalso
    apply h2
    intro q hq hqp
    apply h4
    have e1 := mem_find hr.apart (show (q.1, q.2) ∈ L from hs q hq)
    have e2 := mem_find hr.apart (show (p.1, p.2) ∈ L from hpL)
    rw [hqp, e2] at e1
    have : p = q := Prod.ext hqp.symm (Option.some.inj e1)
    rw [this]; exact hq
  · intro x c kl y w' cnt' hkey hlk hv hat hrg hlt hgr hsz hen
    obtain ⟨q, e1, rfl⟩ := hinv _ _ hkey
    have hy : y = (.held c, []) := (Option.some.inj hv).symm
    have hfind : ∃ v, findL L q = some v ∧ c = ev v := by
      have a1 := hat (.held (.bool true))
      have a2 := hat (.held (.bool false))
      rw [hr.at_, hy] at a1 a2
      cases hf : findL L q with
      | some v => rw [hf] at a1; exact ⟨v, rfl, by injection a1 with a1; exact a1.symm⟩
      | none =>
        rw [hf] at a1 a2
        injection a1 with a1
        injection a2 with a2
        have := a1.trans a2.symm
        simp at this
    obtain ⟨v, hf, rfl⟩ := hfind
    have hm := find_mem hf
    have hnew : ∀ p ∈ done, p.1 ≠ q := by
      have h1 := hl _ hm
      rw [hlk] at h1
      simpa using h1
    have e1' : kv x = kv q := e1
    rw [e1'] at hen ⊢
    refine hMore q v w' hm hnew ⟨D, _, cnt', hrg, hr, ?_, ?_, ?_⟩ (by rw [hrg.left_eq, h.left_eq]; exact hlt) hgr hsz hen
    · rw [List.pairwise_append]
      refine ⟨hp, by simp, ?_⟩
      intro a ha c hc
      rw [List.mem_singleton.1 hc]
      exact hnew a ha
    · intro p hp'
      rcases List.mem_append.1 hp' with h1 | h1
      · exact hs p h1
      · rw [List.mem_singleton.1 h1]; exact hm
    · intro p hpL
      have h1 := hl p hpL
      have hsame : (el p.1).sameKey (el q) = decide (p.1 = q) := by
        by_cases e : p.1 = q
        · rw [e, decide_eq_true rfl]; exact WideAt.sameKey_self (hlit q)
        · rw [decide_eq_false e]
          cases hh : (el p.1).sameKey (el q) with
          | false => rfl
          | true => exact absurd (hel (WideAt.sameKey_eq hh)) e
      rw [h1, hsame]
      by_cases e : p.1 = q
      · simp [e]
      · simp only [e, decide_false, Bool.not_false, Bool.and_true]
        rw [decide_eq_decide]
        constructor
        · intro hh x hx
          rcases List.mem_append.1 hx with h3 | h3
          · exact hh x h3
          · rw [List.mem_singleton.1 h3]; exact Ne.symm e
        · intro hh x hx
          exact hh x (List.mem_append_left _ hx)
end
end Go.Proofs.MapL
