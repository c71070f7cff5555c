import Derived.Test.YtnikhiegnledlaaML
namespace Go.Proofs.Ytnikhiegnledlaa
open Go Go.RowKit Go.Proofs.MapL PPM Go.Proofs.YtnikhiegnledlaaW.PrintWords

abbrev Ap (L : List En) : Prop := L.Pairwise fun a b => a.q ≠ b.q
theorem ap_one {L : List En} (h : Ap L) {a b : En} (ha : a ∈ L) (hb : b ∈ L) (hq : a.q = b.q) : a = b := by
  induction L with
  | nil => cases ha
  | cons x L ih =>
    rw [Ap, List.pairwise_cons] at h
    rcases List.mem_cons.1 ha with rfl | ha' <;> rcases List.mem_cons.1 hb with rfl | hb'
    · rfl
    · exact absurd hq (h.1 _ hb')
    · exact absurd hq.symm (h.1 _ ha')
    · exact ih h.2 ha' hb'
theorem mem_dueS {L : List En} {now : Int} {x : Qn} : x ∈ dueS L now ↔ ∃ e ∈ L, liveB e.expire now = false ∧ e.q = x := by
  unfold dueS dq kv
  rw [List.mem_mergeSort]
  simp only [List.mem_map, List.mem_filter, Bool.not_eq_true']
  constructor
  · rintro ⟨p, ⟨⟨e, he, rfl⟩, hl⟩, rfl⟩; exact ⟨e, he, hl, rfl⟩
  · rintro ⟨e, he, hl, rfl⟩; exact ⟨(e.q, e), ⟨⟨e, he, rfl⟩, hl⟩, rfl⟩
theorem liveL_has {L : List En} (h : Ap L) (q : Qn) (now : Int) : (findE (liveL L now) q).isSome = lookB L q now := by
  unfold lookB
  cases hL : findE L q with
  | none =>
    have h1 := List.find?_eq_none.1 hL
    have : findE (liveL L now) q = none := List.find?_eq_none.2 fun e he => h1 e (List.mem_filter.1 he).1
    rw [this]; rfl
  | some e =>
    obtain ⟨he, hq⟩ := mem_find hL
    simp only
    cases hl : liveB e.expire now with
    | false =>
      rw [Bool.eq_false_iff]
      intro hs
      obtain ⟨a, ha⟩ := Option.isSome_iff_exists.1 hs
      obtain ⟨ha1, ha2⟩ := mem_find ha
      obtain ⟨ha3, ha4⟩ := List.mem_filter.1 ha1
      have := ap_one h ha3 he (ha2.trans hq.symm)
      subst this
      rw [hl] at ha4; cases ha4
    | true =>
      unfold findE
      rw [List.find?_isSome]
      exact ⟨e, List.mem_filter.2 ⟨he, hl⟩, by simpa using hq⟩
theorem liveL_look {L : List En} (h : Ap L) (q : Qn) (now : Int) : lookB (liveL L now) q now = lookB L q now := by
  rw [← liveL_has h]
  unfold lookB
  cases hL : findE (liveL L now) q with
  | none => rfl
  | some e => exact (List.mem_filter.1 (mem_find hL).1).2
theorem due_gone {L : List En} (h : Ap L) {now : Int} {x : Qn} (hx : x ∈ dueS L now) : (findE (liveL L now) x).isSome = false := by
  rw [liveL_has h]
  obtain ⟨e, he, hl, rfl⟩ := mem_dueS.1 hx
  unfold lookB
  cases hL : findE L e.q with
  | none => rfl
  | some a =>
    obtain ⟨ha, hq⟩ := mem_find hL
    have := ap_one h ha he hq
    subst this
    exact hl
theorem due_told {L : List En} (h : Ap L) (q : Qn) (now : Int) : ((dueS L now).any fun x => decide (x = q)) = ((findE L q).isSome && !lookB L q now) := by
  rw [Bool.eq_iff_iff, List.any_eq_true]
  simp only [decide_eq_true_eq, Bool.and_eq_true, Bool.not_eq_true']
  constructor
  · rintro ⟨x, hx, rfl⟩
    have h1 := due_gone h hx
    rw [liveL_has h] at h1
    refine ⟨?_, h1⟩
    obtain ⟨e, he, hl, hq⟩ := mem_dueS.1 hx
    unfold findE
    rw [List.find?_isSome]
    exact ⟨e, he, by simpa using hq⟩
  · rintro ⟨h1, h2⟩
    obtain ⟨e, he⟩ := Option.isSome_iff_exists.1 h1
    unfold lookB at h2
    rw [he] at h2
    obtain ⟨h3, h4⟩ := mem_find he
    exact ⟨q, mem_dueS.2 ⟨e, h3, h2, h4⟩, rfl⟩
theorem due_len (L : List En) (now : Int) : (liveL L now).length + (dueS L now).length = L.length := by
  unfold dueS dq kv liveL
  rw [List.length_mergeSort, List.length_map]
  induction L with
  | nil => rfl
  | cons e L ih =>
    rw [List.map_cons, List.filter_cons, List.filter_cons]
    cases hl : liveB e.expire now <;> simp [hl] <;> omega
theorem due_none (L : List En) (now : Int) : dueS (liveL L now) now = [] := by
  apply List.eq_nil_iff_forall_not_mem.2
  intro x hx
  obtain ⟨e, he, hl, -⟩ := mem_dueS.1 hx
  have := (List.mem_filter.1 he).2
  rw [hl] at this; cases this
theorem due_rises {L : List En} (h : Ap L) (now : Int) : (dueS L now).Pairwise fun a b => qLess a b = true := by
  have tr : ∀ a b c : Qn, (!qLess b a) = true → (!qLess c b) = true → (!qLess c a) = true := fun a b c h1 h2 => by
    simp only [Bool.not_eq_true'] at *; exact qLess_ntrans h2 h1
  have tot : ∀ a b : Qn, ((!qLess b a) || (!qLess a b)) = true := fun a b => by
    cases h1 : qLess b a
    · rfl
    · simp [qLess_asymm h1]
  have h1 : (dueS L now).Pairwise fun a b => (!qLess b a) = true := List.pairwise_mergeSort tr tot _
  have h2 : (dueS L now).Pairwise fun a b => a ≠ b := by
    have h3 : (dq now (kv L)).Pairwise fun a b => a ≠ b := by
      unfold dq kv
      rw [List.pairwise_map]
      refine List.Pairwise.filter _ ?_
      rw [List.pairwise_map]
      exact h
    have h4 : (dueS L now).Perm (dq now (kv L)) := List.mergeSort_perm _ _
    exact (h4.pairwise_iff (fun {x y} hxy => Ne.symm hxy)).2 h3
  exact (List.Pairwise.and h1 h2).imp fun {a b} hab => by
    cases hl : qLess a b with
    | true => rfl
    | false => exact absurd (qLess_total hl (by simpa using hab.1)) hab.2
theorem lookX_live {X : List Ex} (h : Ap (ents X)) (q : Qn) (now : Int) : (lookX (liveX X now) q now).isSome = (lookX X q now).isSome := by
  rw [lookX_B, lookX_B, liveX_ents, liveL_look h]
/-- A row of questions of the call's own: where it lies. -/
def RowAt (w : World) (A : Option Addr) (ks : List Qn) : Prop := 0 < ks.length → ∃ g off, A = some ⟨g, off, none⟩ ∧ ∀ i (h : i < ks.length) (j : Nat) (u : Value), (ks[i]).c[j]? = some u → w.cell? ⟨g, off + i * 3 + j, none⟩ = some u
theorem RowAt.fr {w w' : World} {A : Option Addr} {ks : List Qn} (h : RowAt w A ks) (hf : Fr [] w w') : RowAt w' A ks := fun h0 => by
  obtain ⟨g, off, e, hc⟩ := h h0
  exact ⟨g, off, e, fun i hi j u hu => hf.cell (hc i hi j u hu) (by simp)⟩
theorem own_at {w : World} {base : Nat} {v : Value} {ks : List Qn} (h : w.ownsRow base 25 3 v ks.length (ks.flatMap Qn.c)) : ∃ A c, v = .slice A ks.length c ∧ RowAt w A ks := by
  have h0 := h
  rcases h.2 with ⟨rfl, hn⟩ | ⟨g, cap, cur, rfl, -, hgg, hnc, -⟩
  · exact ⟨none, 0, by rw [hn], fun h1 => by omega⟩
  · refine ⟨some ⟨g, 0, none⟩, cap, rfl, fun _ => ⟨g, 0, rfl, fun i hi j u hu => ?_⟩⟩
    have hj : j < 3 := (List.getElem?_eq_some_iff.1 hu).1
    rw [Nat.zero_add, h0.cellAt _ (by omega), flat_get qc_len _ _ _ hj, List.getElem?_eq_getElem hi]
    exact hu
theorem any_next {ks : List Qn} {q : Qn} {k : Nat} (h : k < ks.length) : ((ks.take (k + 1)).any fun x => decide (x = q)) = ((ks.take k).any (fun x => decide (x = q)) || decide (ks[k] = q)) := by
  rw [List.take_add_one, List.getElem?_eq_getElem h, List.any_append]
  simp
end Go.Proofs.Ytnikhiegnledlaa
