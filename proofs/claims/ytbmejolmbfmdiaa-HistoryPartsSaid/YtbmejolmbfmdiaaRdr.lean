import Derived.ProofKit
import Derived.Deep.Slices
import Derived.Deep.Fields
import Derived.ChangeSame
import Derived.Lib.SmallJoins
import Derived.Test.YtbmejolmbfmdiaaH20
namespace Go.Proofs.Ytbmejolmbfmdiaa
open Go Go.RowKit Go.ChangeShapes Go.WideShapes Go.Deep Go.Joins Go.Lib Go.Proofs.MapL

/-- What a row reads of a type. -/
def Rd (P : Program) (t : TypeId) (n : Nat) (good : World → List Value → Prop) : Prop :=
  P.cellsOf t = n ∧ ∀ (H : Type) (enc : TypeId × Value → H) (w : World) (base : Nat) (spare : Nat → Bool) (held : Bool) (fuel : Nat) (cs : List Value) (x : DataW H × List MemPlace),
    DataW.trod enc P w base spare held fuel t cs = some x → good w cs
section
variable {P : Program} {t e : TypeId}
theorem rd_int {k : IntKind} (ht : P.underlying t = some (.int k)) (hc : P.cellsOf t = 1) : Rd P t 1 (fun _ cs => ∃ n, cs = [.int k n] ∧ (Lit.int k n).wf = true) :=
  ⟨hc, fun H enc w base spare held fuel cs x h => by obtain ⟨n, h1, -, h2⟩ := DataW.trod_int ht h; exact ⟨n, h1, h2⟩⟩
theorem rd_string (ht : P.underlying t = some .string) (hc : P.cellsOf t = 1) : Rd P t 1 (fun _ cs => ∃ s : ByteArray, cs = [.string s] ∧ s.size ≤ maxLen) :=
  ⟨hc, fun H enc w base spare held fuel cs x h => by obtain ⟨s, h1, -, h2⟩ := DataW.trod_string ht h; exact ⟨s, h1, h2⟩⟩
theorem rd_bool (ht : P.underlying t = some .bool) (hc : P.cellsOf t = 1) : Rd P t 1 (fun _ cs => ∃ b, cs = [.bool b]) :=
  ⟨hc, fun H enc w base spare held fuel cs x h => by obtain ⟨s, h1, -⟩ := DataW.trod_bool ht h; exact ⟨s, h1⟩⟩
theorem some_list {α : Type} {n : Nat} {p : Nat → α → Prop} (h : ∀ i, i < n → ∃ a, p i a) : ∃ l : List α, l.length = n ∧ ∀ i (hi : i < l.length), p i l[i] := by
  induction n with
  | zero => exact ⟨[], rfl, fun i hi => by simp at hi⟩
  | succ n ih =>
    obtain ⟨l, hl, hp⟩ := ih (fun i hi => h i (by omega))
    obtain ⟨a, ha⟩ := h n (by omega)
    refine ⟨l ++ [a], by simp [hl], fun i hi => ?_⟩
    by_cases hin : i < l.length
    · rw [List.getElem_append_left hin]; exact hp i hin
    · have : i = n := by simp at hi; omega
      subst this
      rw [List.getElem_append_right (by omega)]
      simpa using ha
theorem rd_slice {α : Type} {n : Nat} {cs : α → List Value} {good : World → α → Prop} (hn : 0 < n) (hcs : ∀ a, (cs a).length = n) (ht : P.underlying t = some (.slice e)) (hc : P.cellsOf t = 1) (h : Rd P e n (fun w c => ∃ a, c = cs a ∧ good w a)) :
    Rd P t 1 (fun w c => ∃ A cap l, c = [.slice A l.length cap] ∧ SlIs cs n w A l.length l ∧ ∀ x ∈ l, good w x) := by
  refine ⟨hc, fun H enc w base spare held fuel c x hx => ?_⟩
  rcases open_slice ht hx with ⟨h1, -⟩ | ⟨a, len, cap, m, k, D, Pl, h1, -, hl, hm, hmm, -, hi⟩
  · exact ⟨none, 0, [], h1, ⟨rfl, by simp, fun h0 => absurd h0 (by simp)⟩, fun _ h => by cases h⟩
  · have hone : ∀ i, i < len → ∃ y : α, (∀ j u, (cs y)[j]? = some u → w.cell? (a.add (i * n + j)) = some u) ∧ good w y := by
      intro i hil
      have him : i < m := by rw [hmm]; split <;> omega
      obtain ⟨cs', hc', ht'⟩ := hi i him
      obtain ⟨y, hk, hg⟩ := h.2 H enc w base spare held k cs' _ ht'
      rw [h.1] at hc'
      obtain ⟨_, hcl, hat⟩ := World.cells?_some hc'
      subst hk
      refine ⟨y, fun j u hu => ?_, hg⟩
      have hj : j < n := by rw [← hcs y]; exact (List.getElem?_eq_some_iff.1 hu).1
      have h3 := hat j hj
      rw [← Go.Deep.add_add, h3, hu]
    obtain ⟨l, hll, hlp⟩ := some_list hone
    subst hll
    refine ⟨some a, cap, l, h1, ⟨rfl, by have : cap ≤ 9223372036854775807 := hm; omega, fun h0 => ?_⟩, fun y hy => ?_⟩
    · obtain ⟨v0, hv0⟩ : ∃ v0, (cs l[0])[0]? = some v0 := by
        cases hq : (cs l[0])[0]? with
        | some v => exact ⟨v, rfl⟩
        | none => rw [List.getElem?_eq_none_iff, hcs] at hq; omega
      have h00 := (hlp 0 h0).1 0 v0 hv0
      obtain ⟨b, off, spot⟩ := a
      have hspot : spot = none := by simpa [Addr.add] using World.cell?_spot h00
      subst hspot
      refine ⟨b, off, rfl, ?_, fun i hi' j u hu => ?_⟩
      · rw [Addr.add_lit] at h00
        unfold World.cell? at h00
        by_cases hb : b < w.heap.size
        · exact hb
        · rw [Array.getElem?_eq_none (by simpa using Nat.le_of_not_lt hb)] at h00; cases h00
      · have := (hlp i hi').1 j u hu
        rw [Addr.add_lit] at this
        rw [Nat.add_assoc]; exact this
    · obtain ⟨j, hj, rfl⟩ := List.getElem_of_mem hy
      exact (hlp j hj).2
theorem rd_fields {fs : Array Field} (ht : P.underlying t = some (.struct fs)) {H : Type} {enc : TypeId × Value → H} {w : World} {base : Nat} {spare : Nat → Bool} {held : Bool} {fuel : Nat} {cs : List Value} {x : DataW H × List MemPlace}
    (hx : DataW.trod enc P w base spare held fuel t cs = some x) : cs.length = P.cellsOf t ∧ ∀ (i : Nat) (f : Field) (n : Nat) (good : World → List Value → Prop), fs[i]? = some f → Rd P f.type n good → good w ((cs.drop f.offset).take n) := by
  obtain ⟨xs, k, -, -, hlen, hxl, hf⟩ := DataW.trod_struct ht hx
  refine ⟨hlen, fun i f n good hi hr => ?_⟩
  have h1 := hf i f hi
  have hlt : i < xs.length := by rw [hxl]; exact (Array.getElem?_eq_some_iff.1 hi).1
  rw [hr.1, List.getElem?_eq_getElem hlt] at h1
  exact hr.2 H enc w base spare held k _ _ h1
theorem drop_split (cs : List Value) (o n : Nat) : cs.drop o = (cs.drop o).take n ++ cs.drop (o + n) := by
  rw [← List.drop_drop, List.take_append_drop]
theorem Rd.open {n : Nat} {good : World → List Value → Prop} (h : Rd P t n good) {H : Type} {enc : TypeId × Value → H} {W : World} {base : Nat} {spare : Nat → Bool} {held : Bool} {v : Value} {dd : DataW H} {ps : List MemPlace}
    (ht : DataW.Trod enc P W base spare held t v dd ps) : good W v.cells.toList := by
  obtain ⟨fuel, hf⟩ := ht
  exact h.2 H enc W base spare held fuel _ _ hf
end
end Go.Proofs.Ytbmejolmbfmdiaa
