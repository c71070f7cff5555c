import Derived.Test.YthnbdpcbagobhaaW11
namespace Go.Proofs.Ythnbdpcbagobhaa
open Go Go.RowKit Go.Proofs.MapL Go.Proofs.YthnbdpcbagobhaaW.PrintWords

structure IntsAt (w : World) (v : Value) (ids : List Int) : Prop where
  le : ids.length ≤ 9223372036854775807
  ok : ∀ i ∈ ids, IdOk i
  at_ : ∃ A c, v = .slice A ids.length c ∧ (0 < ids.length → ∃ b off, A = some ⟨b, off, none⟩ ∧ b < w.heap.size ∧ ∀ i (h : i < ids.length), w.cell? ⟨b, off + i, none⟩ = some (.int .i64 ids[i]))
theorem dueP_len (X : List It) (now : Int) : (dueP X now).length = (X.filter fun x => decide (x.t ≤ now)).length := by
  unfold dueP; rw [List.length_mergeSort, List.length_map]
theorem due_all {X : List It} {now : Int} (h : ∀ x ∈ X, x.t ≤ now) : (dueP X now).length = X.length ∧ leftI X now = [] := by
  rw [dueP_len]
  refine ⟨by rw [List.filter_eq_self.2 (fun x hx => by simpa using h x hx)], List.filter_eq_nil_iff.2 fun x hx => by simpa using h x hx⟩
theorem dueP_mem {X : List It} {now : Int} {q : Int × Int} (h : q ∈ dueP X now) : ∃ x ∈ X, x.i = q.1 ∧ x.t = q.2 ∧ x.t ≤ now := by
  unfold dueP at h
  rw [List.mem_mergeSort] at h
  obtain ⟨x, hx, rfl⟩ := List.mem_map.1 h
  obtain ⟨h1, h2⟩ := List.mem_filter.1 hx
  exact ⟨x, h1, rfl, rfl, by simpa using h2⟩
theorem dueP_ids {X : List It} (hI : Ids X) (now : Int) : (dueP X now).Pairwise fun a b => a.1 ≠ b.1 := by
  have h3 : ((X.filter fun x => decide (x.t ≤ now)).map pairI).Pairwise fun a b => a.1 ≠ b.1 := by
    rw [List.pairwise_map]; exact hI.filter _
  exact ((List.mergeSort_perm _ _).pairwise_iff (fun {x y} hxy => Ne.symm hxy)).2 h3
theorem dueP_sorted (X : List It) (now : Int) : (dueP X now).Pairwise fun a b => (!ltT b a) = true := by
  have tr : ∀ a b c : Int × Int, (!ltT b a) = true → (!ltT c b) = true → (!ltT c a) = true := fun a b c h1 h2 => by
    simp only [Bool.not_eq_true'] at *; exact ltT_ntrans h2 h1
  have tot : ∀ a b : Int × Int, ((!ltT b a) || (!ltT a b)) = true := fun a b => by
    cases h1 : ltT b a
    · rfl
    · rw [ltT_asymm h1]; rfl
  exact List.pairwise_mergeSort tr tot _
theorem due_rise {X : List It} (hI : Ids X) {t now : Int} (h : ∀ x ∈ X, x.t = t) : (dueP X now).Pairwise fun a b => a.1 < b.1 := by
  have h1 := (dueP_sorted X now).and (dueP_ids hI now)
  have h2 : ∀ q ∈ dueP X now, q.2 = t := fun q hq => by
    obtain ⟨x, hx, -, e, -⟩ := dueP_mem hq
    rw [← e]; exact h x hx
  refine List.Pairwise.imp_of_mem (fun {a b} ha hb hab => ?_) h1
  obtain ⟨h3, h4⟩ := hab
  have e1 := h2 a ha
  have e2 := h2 b hb
  have h5 : ltT b a = false := by simpa using h3
  have h6 : ¬ (b.2 < a.2 ∨ (b.2 = a.2 ∧ b.1 < a.1)) := fun hh => by rw [(ltT_iff b a).2 hh] at h5; cases h5
  omega
end Go.Proofs.Ythnbdpcbagobhaa
