import Derived.Test.YtogjfcmclfehkaaKA
import Derived.Sort.Walk0
import Derived.Sort.Statements
import Derived.Shelf.SlSortCmp.Insertion
namespace Go.Proofs.Ytogjfcmclfehkaa
open Go Go.RowKit

/-- New blocks and draws, and nothing else. -/
def Gw (w w' : World) : Prop := ∃ q os, w' = Go.Sort.grow (w.drewN q) os
theorem Gw.refl (w : World) : Gw w w := ⟨0, #[], by rw [Go.Sort.grow_empty]; rfl⟩
theorem Gw.trans {a b c : World} (h : Gw a b) (k : Gw b c) : Gw a c := by
  obtain ⟨q, os, rfl⟩ := h
  obtain ⟨q', os', rfl⟩ := k
  refine ⟨q + q', os ++ os', ?_⟩
  rw [← Go.Sort.grow_grow, ← World.drewN_drewN]
  rfl
theorem Gw.alloc {w : World} (o : Obj) : Gw w (w.alloc o) := ⟨0, #[o], by rw [Go.Sort.alloc_eq_grow]; rfl⟩
theorem Gw.drew {w : World} : Gw w w.drew := ⟨1, #[], by rw [Go.Sort.grow_empty]; rfl⟩
theorem Gw.fr {w w' : World} (h : Gw w w') : Fr [] w w' := by
  obtain ⟨q, os, rfl⟩ := h
  refine ⟨rfl, rfl, rfl, ?_, ?_⟩
  · show w.heap.size ≤ (w.heap ++ os).size
    simp
  · intro k hk _
    show (w.heap ++ os)[k]? = _
    rw [Array.getElem?_append_left hk]
end Go.Proofs.Ytogjfcmclfehkaa
