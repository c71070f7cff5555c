import Derived.Test.YtnikhiegnledlaaM4
import Derived.Sort.Walk0
import Derived.Sort.Statements
import Derived.Shelf.SlSortCmp.Insertion
namespace Go.Proofs.Ytnikhiegnledlaa
open Go Go.RowKit

/-- One text is ahead of another one, then types, then classes. -/
def qLess (a b : Qn) : Bool := if a.name.toList = b.name.toList then (if a.ty = b.ty then decide (a.cl < b.cl) else decide (a.ty < b.ty)) else Op.bytesLess a.name.toList b.name.toList
theorem bl_irrefl (x : List UInt8) : Op.bytesLess x x = false := by rw [bytesLess_eq]; simp [List.lt_irrefl]
theorem bl_trans {x y z : List UInt8} (h1 : Op.bytesLess x y = true) (h2 : Op.bytesLess y z = true) : Op.bytesLess x z = true := by
  rw [bytesLess_eq] at *; simp only [decide_eq_true_eq] at *; exact List.lt_trans h1 h2
theorem bl_asymm {x y : List UInt8} (h1 : Op.bytesLess x y = true) : Op.bytesLess y x = false := by
  rw [bytesLess_eq] at *; simp only [decide_eq_true_eq, decide_eq_false_iff_not] at *; exact List.lt_asymm h1
theorem bl_total {x y : List UInt8} (h1 : Op.bytesLess x y = false) (h2 : Op.bytesLess y x = false) : x = y := by
  rw [bytesLess_eq] at *; simp only [decide_eq_false_iff_not] at *
  exact List.le_antisymm (List.not_lt.1 h2) (List.not_lt.1 h1)
theorem qLess_irrefl (x : Qn) : qLess x x = false := by unfold qLess; simp
theorem qLess_cases (a b : Qn) : qLess a b = true ↔ (Op.bytesLess a.name.toList b.name.toList = true ∨ (a.name.toList = b.name.toList ∧ (a.ty < b.ty ∨ (a.ty = b.ty ∧ a.cl < b.cl)))) := by
  unfold qLess
  by_cases h : a.name.toList = b.name.toList
  · rw [if_pos h, h, bl_irrefl]
    by_cases h2 : a.ty = b.ty
    · rw [if_pos h2]; simp [h2]
    · rw [if_neg h2]; simp [h2]
  · rw [if_neg h]; simp [h]
theorem qLess_trans {a b c : Qn} (h1 : qLess a b = true) (h2 : qLess b c = true) : qLess a c = true := by
  rw [qLess_cases] at *
  rcases h1 with h1 | ⟨e1, h1⟩ <;> rcases h2 with h2 | ⟨e2, h2⟩
  · exact .inl (bl_trans h1 h2)
  · exact .inl (by rw [← e2]; exact h1)
  · exact .inl (by rw [e1]; exact h2)
  · refine .inr ⟨e1.trans e2, ?_⟩
    rcases h1 with h1 | ⟨f1, h1⟩ <;> rcases h2 with h2 | ⟨f2, h2⟩
    · exact .inl (by omega)
    · exact .inl (by omega)
    · exact .inl (by omega)
    · exact .inr ⟨by omega, by omega⟩
theorem ba_ext {a b : ByteArray} (h : a.toList = b.toList) : a = b := by
  rw [ByteArray.toList_eq, ByteArray.toList_eq] at h
  exact ByteArray.ext (Array.toList_inj.1 h)
theorem qn_ext {a b : Qn} (h1 : a.name = b.name) (h2 : a.ty = b.ty) (h3 : a.cl = b.cl) : a = b := by
  obtain ⟨n, t, c, o⟩ := a
  obtain ⟨n', t', c', o'⟩ := b
  dsimp only at h1 h2 h3
  subst h1 h2 h3
  rfl
theorem qLess_total {a b : Qn} (h1 : qLess a b = false) (h2 : qLess b a = false) : a = b := by
  have n1 : ¬ qLess a b = true := by rw [h1]; simp
  have n2 : ¬ qLess b a = true := by rw [h2]; simp
  rw [qLess_cases] at n1 n2
  have e : a.name.toList = b.name.toList := bl_total (by cases hh : Op.bytesLess a.name.toList b.name.toList with | false => rfl | true => exact absurd (.inl hh) n1) (by cases hh : Op.bytesLess b.name.toList a.name.toList with | false => rfl | true => exact absurd (.inl hh) n2)
  have hn : a.name = b.name := ba_ext e
  have t1 : ¬ (a.ty < b.ty ∨ (a.ty = b.ty ∧ a.cl < b.cl)) := fun h => n1 (.inr ⟨e, h⟩)
  have t2 : ¬ (b.ty < a.ty ∨ (b.ty = a.ty ∧ b.cl < a.cl)) := fun h => n2 (.inr ⟨e.symm, h⟩)
  exact qn_ext hn (by omega) (by omega)
theorem qLess_ntrans {a b c : Qn} (h1 : qLess a b = false) (h2 : qLess b c = false) : qLess a c = false := by
  cases h : qLess a c with
  | false => rfl
  | true =>
    exfalso
    cases hba : qLess b a with
    | true => rw [qLess_trans hba h] at h2; cases h2
    | false =>
      have := qLess_total h1 hba
      subst this
      rw [h2] at h; cases h
theorem qLess_asymm {a b : Qn} (h : qLess a b = true) : qLess b a = false := by
  cases h2 : qLess b a with
  | false => rfl
  | true => have := qLess_trans h h2; rw [qLess_irrefl] at this; cases this
def cmpS (a b : ByteArray) : Int := if Op.bytesLess a.toList b.toList then -1 else if Op.bytesLess b.toList a.toList then 1 else 0
def cmpI (a b : Int) : Int := if a < b then -1 else if a > b then 1 else 0
def orI (x y z : Int) : Int := if x = 0 then (if y = 0 then z else y) else x
def cfQ (a b : Qn) : Int := orI (cmpS a.name b.name) (cmpI a.ty b.ty) (cmpI a.cl b.cl)
theorem ltOf_cfQ (a b : Qn) : Go.Proofs.ltOf cfQ a b = qLess a b := by
  unfold Go.Proofs.ltOf
  have h := qLess_cases a b
  by_cases h1 : Op.bytesLess a.name.toList b.name.toList = true
  · rw [h.2 (.inl h1)]
    unfold cfQ orI cmpS; rw [if_pos h1]; rfl
  · by_cases h2 : Op.bytesLess b.name.toList a.name.toList = true
    · have e1 : qLess a b = false := by
        cases hh : qLess a b with
        | false => rfl
        | true =>
          rcases h.1 hh with h3 | ⟨h3, -⟩
          · exact absurd h3 h1
          · rw [h3, bl_irrefl] at h2; cases h2
      rw [e1]
      unfold cfQ orI cmpS; rw [if_neg h1, if_pos h2]; rfl
    · have e0 : cmpS a.name b.name = 0 := by unfold cmpS; rw [if_neg h1, if_neg h2]
      have e : a.name.toList = b.name.toList := bl_total (by simpa using h1) (by simpa using h2)
      unfold cfQ orI
      rw [e0, if_pos rfl]
      unfold cmpI
      unfold qLess
      rw [if_pos e]
      by_cases t1 : a.ty < b.ty
      · rw [if_pos t1, if_neg (by omega), if_neg (by omega)]; simp [t1]
      · by_cases t2 : a.ty > b.ty
        · rw [if_neg t1, if_pos t2, if_neg (by omega), if_neg (by omega)]; simp [t1]
        · have ht : a.ty = b.ty := by omega
          rw [if_neg t1, if_neg t2, if_pos rfl, if_pos ht]
          by_cases c1 : a.cl < b.cl
          · rw [if_pos c1]; simp [c1]
          · rw [if_neg c1]
            by_cases c2 : a.cl > b.cl
            · rw [if_pos c2]; simp [c1]
            · rw [if_neg c2]; simp [c1]
theorem swo_cfQ : Go.Sort.SWO (Go.Proofs.ltOf cfQ) where
  irrefl x := by rw [ltOf_cfQ]; exact qLess_irrefl x
  trans x y z h1 h2 := by rw [ltOf_cfQ] at *; exact qLess_trans h1 h2
  ntrans x y z h1 h2 := by rw [ltOf_cfQ] at *; exact qLess_ntrans h1 h2
end Go.Proofs.Ytnikhiegnledlaa
