import Derived.Test.YthnbdpcbagobhaaMapP
import Derived.Test.YthnbdpcbagobhaaRegT
import Derived.WalkKit
import Derived.ProofKit
import Derived.Below
namespace Go.Proofs.Ythnbdpcbagobhaa
open Go Go.RowKit Go.Proofs.MapL

/-- A fact that the walk does not see. -/
structure Hd (p : Prop) : Prop where
  out : p
section
variable {w w' : World} {S : List Nat}
theorem map_fr {Q V : Type} [DecidableEq Q] {el : Q → Lit} {ev : V → Value} {P : Program} {k : TypeId} {b : Nat} {L : List (Q × V)} (h : mapIs el ev P k w b L) (hf : Fr S w w') (hb : b ∉ S) : mapIs el ev P k w' b L := mapIs_block h (hf.block b h.lt hb)
/-- A map is no block of cells. -/
theorem map_ne {Q V : Type} [DecidableEq Q] {el : Q → Lit} {ev : V → Value} {P : Program} {k : TypeId} {b c T : Nat} {L : List (Q × V)} {cs : List Value} (h : mapIs el ev P k w b L) (hc : Blk w c T cs) : b ≠ c := by
  rintro rfl
  obtain ⟨D, ⟨es, clock, h1, -⟩, -⟩ := h
  unfold Blk at hc
  rw [h1] at hc
  cases hc
theorem map_ne_cell {Q V : Type} [DecidableEq Q] {el : Q → Lit} {ev : V → Value} {P : Program} {k : TypeId} {b g i : Nat} {v : Value} {L : List (Q × V)} (h : mapIs el ev P k w b L) (hc : w.cell? ⟨g, i, none⟩ = some v) : b ≠ g := by
  rintro rfl
  obtain ⟨D, ⟨es, clock, h1, -⟩, -⟩ := h
  simp [World.cell?, h1] at hc
theorem Fr.turned {b : Nat} (h : w.mapTurned w' b) : Fr [b] w w' := by
  obtain ⟨es, clock, es', clock', h1, rfl⟩ := h
  exact ⟨rfl, rfl, rfl, by simp [ChangeMaps.setBlock], fun k hk hn => ChangeMaps.heap_setBlock_other h1 _ (by simpa using hn)⟩
theorem alloc_of {w w1 : World} {o : Obj} (hw : w1 = w.alloc o) : Fr [] w w1 := by rw [hw]; exact (Fr.refl [] w).alloc _
theorem blk_of {w w1 : World} {T : TypeId} {c : List Value} (hw : w1 = w.alloc (.cells c.toArray T)) : Blk w1 w.heap.size T c := by rw [hw]; exact Blk.new _ _ _
end
section
variable {Q V : Type} [DecidableEq Q] {el : Q → Lit} {ev : V → Value} {P : Program} {k : TypeId} {w w' : World} {b r : Nat} {L done : List (Q × V)} {S : List Nat}
theorem own_map_ne {base E size n : Nat} {v : Value} {xs : List Value} (h : mapIs el ev P k w b L) (ho : w.ownsRow base E size v n xs) : ∀ j, v.ownBlock = some j → j ≠ b := by
  intro j hj
  rcases ho.2 with ⟨rfl, -⟩ | ⟨g, cap, cur, rfl, -, hgg, -⟩
  · simp [Value.ownBlock] at hj
  · simp only [Value.ownBlock, Option.some.injEq] at hj
    subst hj
    rintro rfl
    obtain ⟨D, ⟨es, clock, h1, -⟩, -⟩ := h
    rw [h1] at hgg
    cases hgg
theorem iter_ne {base E size n : Nat} {v : Value} {xs : List Value} (h : rangeIs el ev P k w b r L done) (ho : w.ownsRow base E size v n xs) : ∀ j, v.ownBlock = some j → j ≠ r ∧ j ≠ b := by
  intro j hj
  refine ⟨?_, own_map_ne h.map ho j hj⟩
  rcases ho.2 with ⟨rfl, -⟩ | ⟨g, cap, cur, rfl, -, hgg, -⟩
  · simp [Value.ownBlock] at hj
  · simp only [Value.ownBlock, Option.some.injEq] at hj
    subst hj
    rintro rfl
    obtain ⟨m, s, n, c, hit⟩ := h.iter
    rw [hgg] at hit; cases hit
theorem range_fr (h : rangeIs el ev P k w b r L done) (hf : Fr S w w') (hb : b ∉ S) (hr : r ∉ S) : rangeIs el ev P k w' b r L done ∧ w'.rangeLeft b r = w.rangeLeft b r :=
  h.keep (hf.block b h.map.lt hb) (hf.block r h.rlt hr)
theorem r_apart (h : rangeIs el ev P k w b r L done) : done.Pairwise fun p q => p.1 ≠ q.1 := by
  obtain ⟨_, _, _, -, -, h, -⟩ := h
  exact h
theorem r_sub (h : rangeIs el ev P k w b r L done) : ∀ p ∈ done, p ∈ L := by
  obtain ⟨_, _, _, -, -, -, h, -⟩ := h
  exact h
omit [DecidableEq Q] in
theorem perm_done (hL : L.Pairwise fun p q => p.1 ≠ q.1) (hd : done.Pairwise fun p q => p.1 ≠ q.1) (h1 : ∀ p ∈ done, p ∈ L) (h2 : ∀ p ∈ L, p ∈ done) : done.Perm L :=
  (List.perm_ext_iff_of_nodup (hd.imp fun h e => h (by rw [e])) (hL.imp fun h e => h (by rw [e]))).2 fun p => ⟨h1 p, h2 p⟩
theorem done_len (h : rangeIs el ev P k w b r L done) : done.length ≤ L.length := by
  have hL := h.map.apart
  have h2 : done.Perm (L.filter fun p => decide (p.1 ∈ done.map (·.1))) := by
    refine (List.perm_ext_iff_of_nodup ((r_apart h).imp fun h e => h (by rw [e])) ((hL.imp fun h e => h (by rw [e])).filter _)).2 fun p => ?_
    rw [List.mem_filter]
    constructor
    · intro hp; exact ⟨r_sub h p hp, by simpa using ⟨p.2, hp⟩⟩
    · rintro ⟨hp, hq⟩
      have hq : ∃ v, (p.1, v) ∈ done := by simpa using hq
      obtain ⟨v, hv⟩ := hq
      have e1 := mem_find hL (r_sub h _ hv)
      have e2 := mem_find hL (show (p.1, p.2) ∈ L from hp)
      rw [e1] at e2
      have : v = p.2 := Option.some.inj e2
      subst this
      exact hv
  have h3 := h2.length_eq
  have h4 := List.length_filter_le (fun p : Q × V => decide (p.1 ∈ done.map (·.1))) L
  omega
end
theorem Blk.cells2 {w : World} {g T : Nat} {a b : Value} (H : Blk w g T [a, b]) : w.cell? ⟨g, 0, none⟩ = some a ∧ w.cell? ⟨g, 1, none⟩ = some b ∧ (∀ j, w.frozen? ⟨g, j, none⟩ = false) := ⟨H.cell rfl, H.cell rfl, fun j => H.free j⟩
theorem Blk.cells3 {w : World} {g T : Nat} {a b c : Value} (H : Blk w g T [a, b, c]) :
    w.cell? ⟨g, 0, none⟩ = some a ∧ w.cell? ⟨g, 1, none⟩ = some b ∧ w.cell? ⟨g, 2, none⟩ = some c ∧ (∀ j, w.frozen? ⟨g, j, none⟩ = false) :=
  ⟨H.cell rfl, H.cell rfl, H.cell rfl, fun j => H.free j⟩
end Go.Proofs.Ythnbdpcbagobhaa
