import Derived.Test.YtbmejolmbfmdiaaMem
namespace Go.Proofs.Ytbmejolmbfmdiaa
open Go.RowKit

theorem Fr.cell {S : List Nat} {w w' : World} (h : Fr S w w') {a : Addr} {v : Value} (hc : w.cell? a = some v) (hS : a.block ∉ S) : w'.cell? a = some v :=
  (World.cell?_of_block (h.block _ (World.block_lt_of_cell? w a hc) hS)).trans hc

/-- w' is w, but for new blocks, draws, the blocks in S, and what lies in those blocks from N on that are of type T. -/
structure FrT (N : Nat) (S : List Nat) (T : TypeId) (w w' : World) : Prop where
  os : w'.os = w.os
  tape : w'.tape = w.tape
  output : w'.output = w.output
  size : w.heap.size ≤ w'.heap.size
  block : ∀ k, k < w.heap.size → k ∉ S → w'.heap[k]? = w.heap[k]? ∨ (N ≤ k ∧ ∃ c c' : List Value, c.length = c'.length ∧ Blk w k T c ∧ Blk w' k T c')

section
variable {N : Nat} {S : List Nat} {T : TypeId} {w w' : World}
theorem FrT.of (h : Fr S w w') : FrT N S T w w' := ⟨h.os, h.tape, h.output, h.size, fun k hk hs => .inl (h.block k hk hs)⟩
theorem FrT.trans {w'' : World} (h : FrT N S T w w') (h' : FrT N S T w' w'') : FrT N S T w w'' := by
  refine ⟨h'.os.trans h.os, h'.tape.trans h.tape, h'.output.trans h.output, Nat.le_trans h.size h'.size, fun k hk hs => ?_⟩
  rcases h.block k hk hs with h1 | ⟨hn, c, c', hl, h1, h2⟩ <;> rcases h'.block k (Nat.lt_of_lt_of_le hk h.size) hs with h3 | ⟨hn', e, e', hl', h3, h4⟩
  · exact .inl (h3.trans h1)
  · exact .inr ⟨hn', e, e', hl', by unfold Blk at *; rw [← h1]; exact h3, h4⟩
  · exact .inr ⟨hn, c, c', hl, h1, by unfold Blk at *; rw [h3]; exact h2⟩
  · refine .inr ⟨hn, c, e', ?_, h1, h4⟩
    unfold Blk at h2 h3
    rw [h2] at h3
    simp at h3
    subst h3
    omega
theorem FrT.fr (h : FrT N S T w w') (hN : w.heap.size ≤ N) : Fr S w w' :=
  ⟨h.os, h.tape, h.output, h.size, fun k hk hs => (h.block k hk hs).elim id (fun h' => by omega)⟩
theorem FrT.set {b : Nat} {c c' : List Value} (h : Fr [b] w w') (hb : N ≤ b) (hc : Blk w b T c) (hc' : Blk w' b T c') (hl : c.length = c'.length) : FrT N S T w w' :=
  ⟨h.os, h.tape, h.output, h.size, fun k hk _ => by
    by_cases e : k = b
    · subst e; exact .inr ⟨hb, c, c', hl, hc, hc'⟩
    · exact .inl (h.block k hk (by simpa using e))⟩
theorem Blk.frT {b T' : Nat} {c : List Value} (h : Blk w b T' c) (hf : FrT N S T w w') (hb : b ∉ S) (hT : b < N ∨ T' ≠ T) : Blk w' b T' c := by
  rcases hf.block b h.lt hb with h1 | ⟨hn, e, e', -, h1, -⟩
  · unfold Blk; rw [h1]; exact h
  · exfalso
    rcases hT with h' | h'
    · omega
    · unfold Blk at h h1; rw [h] at h1; simp at h1; exact h' h1.2
/-- A block of so many cells. -/
def BlkN (w : World) (b : Nat) (T : TypeId) (n : Nat) : Prop := ∃ c : List Value, c.length = n ∧ Blk w b T c
theorem BlkN.frT {b n : Nat} (h : BlkN w b T n) (hf : FrT N S T w w') (hb : b ∉ S) : BlkN w' b T n := by
  obtain ⟨c, hl, h⟩ := h
  rcases hf.block b h.lt hb with h1 | ⟨hn, e, e', hl', h1, h2⟩
  · exact ⟨c, hl, by unfold Blk; rw [h1]; exact h⟩
  · unfold Blk at h h1; rw [h] at h1; simp at h1
    subst h1
    exact ⟨e', by omega, h2⟩
theorem own_frT {base E size n : Nat} {v : Value} {xs : List Value} (h : w.ownsRow base E size v n xs) (hf : FrT N S T w w') (hS : ∀ k, v.ownBlock = some k → k ∉ S) (hE : E ≠ T) : w'.ownsRow base E size v n xs := by
  refine ⟨h.1, ?_⟩
  rcases h.2 with hn | ⟨g, cap, cur, rfl, hb, hgg, rest⟩
  · exact .inl hn
  · refine .inr ⟨g, cap, cur, rfl, hb, ?_, rest⟩
    have hb' : Blk w g E cur.toList := by unfold Blk; simpa using hgg
    have := hb'.frT hf (hS g rfl) (.inr hE)
    unfold Blk at this; simpa using this
theorem FrT.cell (h : FrT N S T w w') {a : Addr} {v : Value} (hc : w.cell? a = some v) (hS : a.block ∉ S) (hN : a.block < N) : w'.cell? a = some v := by
  rcases h.block _ (World.block_lt_of_cell? w a hc) hS with h1 | ⟨h1, -⟩
  · exact (World.cell?_of_block h1).trans hc
  · omega
end
end Go.Proofs.Ytbmejolmbfmdiaa
