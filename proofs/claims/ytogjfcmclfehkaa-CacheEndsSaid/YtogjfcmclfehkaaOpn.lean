import Derived.Test.YtogjfcmclfehkaaWWords
import Derived.ProofKit
import Derived.Deep.Slices
import Derived.Deep.Fields
import Derived.ChangeSame
import Derived.Lib.SmallJoins
namespace Go.Proofs.Ytogjfcmclfehkaa
open Go.RowKit Go.ChangeShapes Go.WideShapes Go.Deep Go.Joins Go.Proofs.YtogjfcmclfehkaaW.PrintWords

/-- What a row reads of a type is of a kind. -/
def Opn {α : Type} (P : Program) (t : TypeId) (d : Kd α) (good : α → Prop) : Prop :=
  P.cellsOf t = d.sz ∧ ∀ (H : Type) (enc : TypeId × Value → H) (w : World) (base : Nat) (spare : Nat → Bool) (held : Bool) (fuel : Nat) (cs : List Value) (x : DataW H × List MemPlace),
    DataW.trod enc P w base spare held fuel t cs = some x → ∃ a, d.K w a cs ∧ good a
section
variable {P : Program} {t e : TypeId}
theorem opn_int {k : IntKind} (ht : P.underlying t = some (.int k)) (hc : P.cellsOf t = 1) : Opn P t (Kd.int k) (fun n => (Lit.int k n).wf = true) :=
  ⟨hc, fun H enc w base spare held fuel cs x h => by obtain ⟨n, h1, -, h2⟩ := DataW.trod_int ht h; exact ⟨n, h1, h2⟩⟩
theorem opn_string (ht : P.underlying t = some .string) (hc : P.cellsOf t = 1) : Opn P t Kd.string (fun s => s.size ≤ maxLen) :=
  ⟨hc, fun H enc w base spare held fuel cs x h => by obtain ⟨s, h1, -, h2⟩ := DataW.trod_string ht h; exact ⟨s, h1, h2⟩⟩
theorem list_of {α : Type} {n : Nat} {p : Nat → α → Prop} (h : ∀ i, i < n → ∃ a, p i a) : ∃ l : List α, l.length = n ∧ ∀ i (hi : i < l.length), p i l[i] := by
  induction n with
  | zero => exact ⟨[], rfl, fun i hi => by simp at hi⟩
  | succ n ih =>
    obtain ⟨l, hl, hp⟩ := ih (fun i hi => h i (by omega))
    obtain ⟨a, ha⟩ := h n (by omega)
    refine ⟨l ++ [a], by simp [hl], fun i hi => ?_⟩
    by_cases hin : i < l.length
    · rw [List.getElem_append_left hin]; exact hp i hin
    · have : i = n := by simp at hi; omega
      subst this
      rw [List.getElem_append_right (by omega)]
      simpa using ha
theorem opn_slice {α : Type} {d : Kd α} {good : α → Prop} (ht : P.underlying t = some (.slice e)) (hc : P.cellsOf t = 1) (h : Opn P e d good) : Opn P t (Kd.slice e d) (fun l => l.length ≤ maxLen ∧ ∀ x ∈ l, good x) := by
  refine ⟨hc, fun H enc w base spare held fuel cs x hx => ?_⟩
  rcases open_slice ht hx with ⟨h1, -⟩ | ⟨a, len, cap, m, n, D, Pl, h1, -, hl, hm, hmm, -, hi⟩
  · exact ⟨[], ⟨none, 0, h1, Nat.le_refl _, rfl, by simp, fun h0 => by simp at h0⟩, by simp, by simp⟩
  · have hone : ∀ i, i < len → ∃ x : α, (∃ c : List Value, c.length = d.sz ∧ d.K w x c ∧ ∀ j u, c[j]? = some u → w.cell? (a.add (i * d.sz + j)) = some u) ∧ good x := by
      intro i hil
      have him : i < m := by rw [hmm]; split <;> omega
      obtain ⟨cs', hc', ht'⟩ := hi i him
      obtain ⟨y, hk, hg⟩ := h.2 H enc w base spare held n cs' _ ht'
      rw [h.1] at hc'
      obtain ⟨_, hcl, hat⟩ := World.cells?_some hc'
      refine ⟨y, ⟨cs', hcl, hk, fun j u hu => ?_⟩, hg⟩
      have hj : j < d.sz := by rw [← hcl]; exact (List.getElem?_eq_some_iff.1 hu).1
      have h3 := hat j hj
      rw [← Go.Deep.add_add, h3, hu]
    obtain ⟨l, hll, hlp⟩ := list_of hone
    refine ⟨l, ⟨some a, cap, by rw [h1, hll], by omega, rfl, by have : cap ≤ 9223372036854775807 := hm; omega, fun _ => ⟨a, rfl, fun j p hj => ?_⟩⟩, by omega, ?_⟩
    · obtain ⟨hjl, rfl⟩ := List.getElem?_eq_some_iff.1 hj
      exact (hlp j hjl).1
    · intro x hx
      obtain ⟨j, hj, rfl⟩ := List.getElem_of_mem hx
      exact (hlp j hj).2
/-- A struct's fields from one on. -/
def OpnF {α : Type} (P : Program) (fs : List Field) (off : Nat) (d : Kd α) (good : α → Prop) : Prop :=
  ∀ (H : Type) (enc : TypeId × Value → H) (w : World) (base : Nat) (spare : Nat → Bool) (held : Bool) (n : Nat) (cs : List Value) (xs : List (DataW H × List MemPlace)), xs.length = fs.length →
    (∀ (i : Nat) (f : Field), fs[i]? = some f → DataW.trod enc P w base spare held n f.type ((cs.drop f.offset).take (P.cellsOf f.type)) = xs[i]?) → cs.length = off + d.sz → ∃ a, d.K w a (cs.drop off) ∧ good a
theorem opnF_one {α : Type} {d : Kd α} {good : α → Prop} {f : Field} {off : Nat} (ho : f.offset = off) (h : Opn P f.type d good) : OpnF P [f] off d good := by
  intro H enc w base spare held n cs xs hx hf hl
  have h1 := hf 0 f rfl
  rw [ho, h.1, List.take_of_length_le (by simp; omega), List.getElem?_eq_getElem (by simp [hx])] at h1
  exact h.2 H enc w base spare held n _ _ h1
theorem opnF_cons {α β : Type} {d : Kd α} {good : α → Prop} {d2 : Kd β} {good2 : β → Prop} {f : Field} {fs : List Field} {off : Nat} (ho : f.offset = off) (h : Opn P f.type d good) (h2 : OpnF P fs (off + d.sz) d2 good2) : OpnF P (f :: fs) off (Kd.pair d d2) (fun p => good p.1 ∧ good2 p.2) := by
  intro H enc w base spare held n cs xs hx hf hl
  have hl : cs.length = off + (d.sz + d2.sz) := hl
  have h1 := hf 0 f rfl
  rw [ho, h.1, List.getElem?_eq_getElem (by simp [hx])] at h1
  obtain ⟨a, ha, hga⟩ := h.2 H enc w base spare held n _ _ h1
  obtain ⟨b, hb, hgb⟩ := h2 H enc w base spare held n cs xs.tail (by simp [hx]) (fun i f hf' => by rw [hf (i + 1) f (by simpa using hf')]; simp) (by omega)
  refine ⟨(a, b), ⟨(cs.drop off).take d.sz, cs.drop (off + d.sz), ?_, ha, hb⟩, hga, hgb⟩
  rw [← List.drop_drop, List.take_append_drop]
theorem opn_struct {α : Type} {d : Kd α} {good : α → Prop} {fs : Array Field} (ht : P.underlying t = some (.struct fs)) (hc : P.cellsOf t = d.sz) (h : OpnF P fs.toList 0 d good) : Opn P t d good := by
  refine ⟨hc, fun H enc w base spare held fuel cs x hx => ?_⟩
  obtain ⟨xs, n, -, -, hlen, hxl, hf⟩ := DataW.trod_struct ht hx
  have := h H enc w base spare held n cs xs (by simpa using hxl) (fun i f hi => hf i f (by simpa using hi)) (by rw [hlen, hc]; omega)
  simpa using this
theorem opn_iso {α β : Type} {d : Kd α} {good : α → Prop} (f : β → α) (g : α → β) (hfg : ∀ a, f (g a) = a) (h : Opn P t d good) : Opn P t (Kd.iso d f) (fun b => good (f b)) :=
  ⟨h.1, fun H enc w base spare held fuel cs x hx => by
    obtain ⟨a, h1, h2⟩ := h.2 H enc w base spare held fuel cs x hx
    exact ⟨g a, by show d.K w (f (g a)) cs; rw [hfg]; exact h1, by show good (f (g a)); rw [hfg]; exact h2⟩⟩
theorem Opn.imp {α : Type} {d : Kd α} {good good' : α → Prop} (h : Opn P t d good) (hi : ∀ a, good a → good' a) : Opn P t d good' :=
  ⟨h.1, fun H enc w base spare held fuel cs x hx => by obtain ⟨a, h1, h2⟩ := h.2 H enc w base spare held fuel cs x hx; exact ⟨a, h1, hi a h2⟩⟩
/-- A value that came in. -/
theorem Opn.open {α : Type} {d : Kd α} {good : α → Prop} (h : Opn P t d good) {H : Type} {enc : TypeId × Value → H} {W : World} {base : Nat} {spare : Nat → Bool} {held : Bool} {v : Value} {dd : DataW H} {ps : List MemPlace}
    (ht : DataW.Trod enc P W base spare held t v dd ps) : ∃ a, d.K W a v.cells.toList ∧ good a := by
  obtain ⟨fuel, hf⟩ := ht
  exact h.2 H enc W base spare held fuel _ _ hf
end
end Go.Proofs.Ytogjfcmclfehkaa
