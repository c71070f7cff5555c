import Derived.Test.YtogjfcmclfehkaaKA
import Derived.Shelf.SlSortCmp.NoneTotal
namespace Go.Proofs.Ytogjfcmclfehkaa
open Go Go.RowKit Go.Sort

section
variable {α : Type} [Inhabited α] {enc : α → List Value} {k : Nat} (hk : ∀ x, (enc x).length = k)
include hk
theorem flatK_list (hp : 0 < k) (d : Array α) : (flatK enc k d).toList = d.toList.flatMap enc := by
  apply List.ext_getElem?
  intro t
  have ht := Nat.div_add_mod' t k
  have hm := Nat.mod_lt t hp
  by_cases hlt : t < d.size * k
  · have h1 : t / k < d.size := by rw [Nat.div_lt_iff_lt_mul hp]; exact hlt
    have h2 : (flatK enc k d).toList[t]? = some ((enc d[t / k]!)[t % k]!) := by
      rw [Array.getElem?_toList]
      have h3 : t < (flatK enc k d).size := by simpa using hlt
      rw [Array.getElem?_eq_getElem h3]
      have h4 := get_flatK enc k d t hlt
      rw [getElem!_pos _ t h3] at h4
      rw [h4]
    rw [h2]
    conv => rhs; rw [← ht]
    rw [flat_get hk _ _ _ hm, Array.getElem?_toList, Array.getElem?_eq_getElem h1, getElem!_pos d _ h1]
    simp only [Option.bind_some]
    have h5 : t % k < (enc d[t / k]).length := by rw [hk]; exact hm
    rw [getElem!_pos (enc d[t / k]) (t % k) h5, List.getElem?_eq_getElem h5]
  · rw [List.getElem?_eq_none (by simp; omega), List.getElem?_eq_none (by rw [flat_len hk]; simp; omega)]
theorem own_holdsK (hp : 0 < k) {w : World} {base E g n c : Nat} {l : List α} (h : w.ownsRow base E k (.slice (some ⟨g, 0, none⟩) n c) n (l.flatMap enc)) (hl : l.length = n) : HoldsK enc k w g 0 l.toArray := by
  intro j hj
  have hj' : j < n * k := by simpa [hl] using hj
  have hc : (flatK enc k l.toArray)[j]? = (l.flatMap enc)[j]? := by
    rw [← Array.getElem?_toList, flatK_list hk hp]
  have hlt : j < (l.flatMap enc).length := by rw [flat_len hk, hl]; exact hj'
  rw [List.getElem?_eq_getElem hlt] at hc
  refine ⟨?_, h.frozenAt _⟩
  rw [Nat.zero_add, h.cellAt j hj', List.getElem?_eq_getElem hlt]
  have h3 := (Array.getElem?_eq_some_iff.1 hc)
  obtain ⟨h4, h5⟩ := h3
  rw [getElem!_pos _ j h4, h5]
  rfl
theorem own_sorted (hp : 0 < k) {w : World} {base E g n c m : Nat} {l : List α} {d : Array α} {os : Array Obj} (h : w.ownsRow base E k (.slice (some ⟨g, 0, none⟩) n c) n (l.flatMap enc)) (_hl : l.length = n) (hd : d.size = n) :
    (sortWorldK enc k w g 0 m d os).ownsRow base E k (.slice (some ⟨g, 0, none⟩) n c) n (d.toList.flatMap enc) ∧ Fr [g] w (sortWorldK enc k w g 0 m d os) := by
  obtain ⟨h1, h2⟩ := h
  rcases h2 with ⟨h2, -⟩ | ⟨g', cap, cur, e, hb, hg, hn, hm, hs, ht⟩
  · cases h2
  simp only [Value.slice.injEq, Option.some.injEq, Addr.mk.injEq, and_true, true_and] at e
  obtain ⟨rfl, rfl⟩ := e
  have hglt : g < w.heap.size := (Array.getElem?_eq_some_iff.1 hg).1
  have hheap : (sortWorldK enc k w g 0 m d os).heap[g]? = some (.cells (putCells id 0 (flatK enc k d) cur) E (0, 0)) := by
    unfold sortWorldK
    rw [heap_grow_old _ _ (by simpa [putRowK, putRow, mapBlock, Sort.ahead] using hglt)]
    simp [putRowK, putRow, mapBlock, Sort.ahead, Array.getElem?_modify, hg, onCells]
  have hsz : (putCells id 0 (flatK enc k d) cur).size = cur.size := by simp [putCells]
  refine ⟨⟨?_, .inr ⟨g, c, _, rfl, hb, hheap, hn, hm, by rw [hsz]; exact hs, ?_⟩⟩, ?_⟩
  · rw [flat_len hk]; simp [hd]
  · apply List.ext_getElem?
    intro j
    by_cases hj : j < n * k
    · rw [List.getElem?_take_of_lt hj, Array.getElem?_toList]
      have hjc : j < cur.size := by
        rw [hs]
        exact Nat.lt_of_lt_of_le hj (Nat.mul_le_mul_right k hn)
      have hjf : j < (flatK enc k d).size := by simp [hd]; exact hj
      have e1 : (putCells id 0 (flatK enc k d) cur)[j]? = some ((flatK enc k d)[j]) := by
        simp only [putCells, Array.getElem?_mapIdx, Array.getElem?_eq_getElem hjc, Option.map_some, Nat.zero_le, true_and, Nat.zero_add, hjf, if_true, Nat.sub_zero, id]
        rw [getElem!_pos _ j hjf]
      rw [e1, ← flatK_list hk hp, Array.getElem?_toList, Array.getElem?_eq_getElem hjf]
    · rw [List.getElem?_take_eq_none (by omega), List.getElem?_eq_none (by rw [flat_len hk]; simp [hd]; omega)]
  · refine ⟨rfl, rfl, rfl, by simp [sortWorldK, putRowK, putRow, mapBlock, Sort.ahead, grow], fun i hi hne => ?_⟩
    unfold sortWorldK
    rw [heap_grow_old _ _ (by simpa [putRowK, putRow, mapBlock, Sort.ahead] using hi)]
    have hne' : g ≠ i := fun e => hne (by simp [e])
    simp [putRowK, putRow, mapBlock, Sort.ahead, Array.getElem?_modify, hne']
end
end Go.Proofs.Ytogjfcmclfehkaa
