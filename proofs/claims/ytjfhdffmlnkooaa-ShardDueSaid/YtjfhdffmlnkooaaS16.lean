import Derived.Test.YtjfhdffmlnkooaaRA
namespace Go.Proofs.Ytjfhdffmlnkooaa
open Go Go.RowKit Go.Proofs.MapL PPM Go.Proofs.YtjfhdffmlnkooaaW.PrintWords

theorem row_step {w w' : World} {B : ShB} {s : SS} {base : Nat} {v : Value} {ks : List Qn} (h : QRow w base v ks) (hs : ShE w B s) (hf : Fr B.wr w w') : QRow w' base v ks := by
  refine own_fr h hf fun k hk => ?_
  rcases h.2 with ⟨rfl, -⟩ | ⟨g, cap, cur, rfl, -⟩
  · cases hk
  · obtain ⟨cs, hc⟩ := own_is_blk h
    simp only [Value.ownBlock, Option.some.injEq] at hk
    subst hk
    exact blk_apart hs hc (by decide) (by decide) (by decide)
theorem row0 {w w' : World} {base : Nat} {v : Value} {ks : List Qn} (h : QRow w base v ks) (hf : Fr [] w w') : QRow w' base v ks := own_fr h hf (by simp)
theorem row_cells {w : World} {base g n c k : Nat} {q : Qn} {ks : List Qn} (h : QRow w base (.slice (some ⟨g, 0, none⟩) n c) ks) (hk : ks[k]? = some q) :
    w.cell? ⟨g, k * 3, none⟩ = some (.string q.name) ∧ w.cell? ⟨g, k * 3 + 1, none⟩ = some (.int .u16 q.ty) ∧ w.cell? ⟨g, k * 3 + 2, none⟩ = some (.int .u16 q.cl) := by
  obtain ⟨hlt, rfl⟩ := List.getElem?_eq_some_iff.1 hk
  have e : n = ks.length := by
    rcases h.2 with ⟨h1, -⟩ | ⟨g', cap, cur, h1, -⟩
    · cases h1
    · cases h1; rfl
  subst e
  have e3 : ∀ q : Qn, (Qn.c q).length = 3 := fun _ => rfl
  have h1 : ∀ i u, i < 3 → (ks[k]).c[i]? = some u → w.cell? ⟨g, k * 3 + i, none⟩ = some u := by
    intro i u hi hu
    rw [World.ownsRow.cellAt h (k * 3 + i) (by omega), flat_get e3 _ _ _ hi, hk]
    exact hu
  exact ⟨h1 0 _ (by omega) rfl, h1 1 _ (by omega) rfl, h1 2 _ (by omega) rfl⟩
theorem row_form {w : World} {base : Nat} {v : Value} {ks : List Qn} (h : QRow w base v ks) : ∃ A c, v = .slice A ks.length c ∧ (0 < ks.length → ∃ g, A = some ⟨g, 0, none⟩) ∧ ks.length ≤ c := by
  rcases h.2 with ⟨rfl, e⟩ | ⟨g, cap, cur, rfl, -, -, e1, -⟩
  · exact ⟨none, 0, by rw [e], fun h => by omega, by omega⟩
  · exact ⟨_, cap, rfl, fun _ => ⟨g, rfl⟩, e1⟩
/-- The uniqueness of questions. -/
theorem ShE.uq {w : World} {B : ShB} {s : SS} (h : ShE w B s) : Uq s := by obtain ⟨tu, h⟩ := h; exact h.uq
theorem qn_ext {a b : Qn} (h1 : a.name = b.name) (h2 : a.ty = b.ty) (h3 : a.cl = b.cl) : a = b := by cases a; cases b; simp only at h1 h2 h3; subst h1 h2 h3; rfl
end Go.Proofs.Ytjfhdffmlnkooaa
