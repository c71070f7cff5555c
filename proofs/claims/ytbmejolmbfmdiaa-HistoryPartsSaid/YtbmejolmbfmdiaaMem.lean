import Derived.WalkKit
import Derived.WalkSpells
import Derived.WalkLawsBesides
import Derived.Deep.LoopGhost
import Derived.Deep.QuietTactic
import Derived.BigQuiet
namespace Go.Proofs.Ytbmejolmbfmdiaa
open Go.RowKit

theorem hid {p : Prop} (h : p) : Hid p := h

/-- Block b is a row of the cells c, of type T, none frozen. -/
def Blk (w : World) (b : Nat) (T : TypeId) (c : List Value) : Prop := w.heap[b]? = some (.cells c.toArray T (0, 0))

/-- w' is w, but for new blocks, draws, and the blocks in S. -/
structure Fr (S : List Nat) (w w' : World) : Prop where
  os : w'.os = w.os
  tape : w'.tape = w.tape
  output : w'.output = w.output
  size : w.heap.size ≤ w'.heap.size
  block : ∀ k, k < w.heap.size → k ∉ S → w'.heap[k]? = w.heap[k]?

theorem Fr.refl (S : List Nat) (w : World) : Fr S w w := ⟨rfl, rfl, rfl, Nat.le_refl _, fun _ _ _ => rfl⟩
theorem Fr.trans {S : List Nat} {a b c : World} (h : Fr S a b) (k : Fr S b c) : Fr S a c :=
  ⟨k.os.trans h.os, k.tape.trans h.tape, k.output.trans h.output, Nat.le_trans h.size k.size, fun i hi hs => (k.block i (Nat.lt_of_lt_of_le hi h.size) hs).trans (h.block i hi hs)⟩
/-- What S lacks of T are blocks that are new. -/
theorem Fr.weak {S T : List Nat} {a b c : World} (h : Fr S a b) (k : Fr T b c) (hT : ∀ x ∈ T, x ∈ S ∨ a.heap.size ≤ x) : Fr S a c :=
  ⟨k.os.trans h.os, k.tape.trans h.tape, k.output.trans h.output, Nat.le_trans h.size k.size, fun i hi hs =>
    (k.block i (Nat.lt_of_lt_of_le hi h.size) (fun hx => (hT i hx).elim hs (fun h' => by omega))).trans (h.block i hi hs)⟩
theorem Fr.mono {S T : List Nat} {a b : World} (h : Fr S a b) (hT : ∀ x ∈ S, x ∈ T) : Fr T a b :=
  ⟨h.os, h.tape, h.output, h.size, fun i hi hs => h.block i hi (fun hx => hs (hT i hx))⟩
theorem Fr.drew {S : List Nat} {a w : World} (h : Fr S a w) : Fr S a w.drew := ⟨h.os, h.tape, h.output, h.size, h.block⟩
theorem Fr.drewN {S : List Nat} {a w : World} (h : Fr S a w) (n : Nat) : Fr S a (w.drewN n) := ⟨h.os, h.tape, h.output, h.size, h.block⟩
theorem Fr.alloc {S : List Nat} {a w : World} (h : Fr S a w) (o : Obj) : Fr S a (w.alloc o) :=
  h.trans ⟨rfl, rfl, rfl, by simp, fun k hk _ => Below.heap_alloc _ _ _ hk⟩
theorem Fr.setCell {S : List Nat} {a w : World} (h : Fr S a w) {p : Addr} (hp : p.block ∈ S ∨ a.heap.size ≤ p.block) (u : Value) : Fr S a (w.setCell p u) :=
  h.weak (T := [p.block]) ⟨rfl, rfl, rfl, by simp, fun k _ hk => Below.heap_setCell _ _ _ _ (by simpa using hk)⟩ (by simpa using hp)
theorem Fr.grown {S : List Nat} {a w w' : World} {row : Option Nat} (h : Fr S a w) (hg : w.grownBy w' row) (hr : ∀ k, row = some k → k ∈ S ∨ a.heap.size ≤ k) : Fr S a w' :=
  h.weak (T := row.toList) ⟨hg.os, hg.tape, hg.output, hg.size, fun k hk hx => hg.block k hk (by cases row <;> simp_all)⟩ (by intro x hx; exact hr x (by simpa using hx))
theorem Fr.below {S : List Nat} {w w' : World} (h : Fr S w w') (hS : ∀ x ∈ S, w.heap.size ≤ x) : Below w.heap.size w w' :=
  ⟨h.os, h.tape, h.output, h.size, fun k hk => h.block k hk (fun hx => by have := hS k hx; omega)⟩
theorem Fr.new {S : List Nat} {w w' : World} (h : Fr S w w') (hS : ∀ x ∈ S, w.heap.size ≤ x) : Fr [] w w' :=
  ⟨h.os, h.tape, h.output, h.size, fun k hk _ => h.block k hk (fun hx => by have := hS k hx; omega)⟩

section
variable {w w' : World} {b T : Nat} {c : List Value}
theorem Blk.lt (h : Blk w b T c) : b < w.heap.size := (Array.getElem?_eq_some_iff.1 h).1
theorem Blk.fr {S : List Nat} (h : Blk w b T c) (hf : Fr S w w') (hb : b ∉ S) : Blk w' b T c := by unfold Blk; rw [hf.block b h.lt hb]; exact h
theorem Blk.cell (h : Blk w b T c) {i : Nat} {v : Value} (hv : c[i]? = some v) : w.cell? ⟨b, i, none⟩ = some v := by
  unfold Blk at h; simp [World.cell?, h, hv]
theorem Blk.free (h : Blk w b T c) (i : Nat) : w.frozen? ⟨b, i, none⟩ = false := by
  unfold Blk at h; simp [World.frozen?, h]
theorem Blk.alloc (h : Blk w b T c) (o : Obj) : Blk (w.alloc o) b T c := by unfold Blk; rw [Below.heap_alloc _ _ _ h.lt]; exact h
theorem Blk.drew (h : Blk w b T c) : Blk w.drew b T c := h
theorem Blk.set (h : Blk w b T c) (i : Nat) (v : Value) : Blk (w.setCell ⟨b, i, none⟩ v) b T (c.set i v) := by
  unfold Blk at *
  simp [World.setCell, Array.getElem?_modify, h]
theorem Blk.other (h : Blk w b T c) {a : Addr} (hb : b ≠ a.block) (v : Value) : Blk (w.setCell a v) b T c := by
  unfold Blk; rw [Below.heap_setCell _ _ _ _ hb]; exact h
theorem Blk.ne {b' T' : Nat} {c' : List Value} (h : Blk w b T c) (h' : Blk w b' T' c') (hT : T ≠ T') : b ≠ b' := by
  rintro rfl; unfold Blk at *; rw [h] at h'; simp at h'; exact hT h'.2
theorem Blk.new (w : World) (T : Nat) (c : List Value) : Blk (w.alloc (.cells c.toArray T)) w.heap.size T c := by
  unfold Blk; exact heap_alloc_new w _
theorem Blk.newA (w : World) (T : Nat) (c : Array Value) : Blk (w.alloc (.cells c T)) w.heap.size T c.toList := by
  unfold Blk; exact heap_alloc_new w _
end

section
variable {α : Type} {enc : α → List Value} {k : Nat} (hk : ∀ a, (enc a).length = k)
include hk
theorem flat_len (l : List α) : (l.flatMap enc).length = l.length * k := by
  induction l with
  | nil => simp
  | cons a l ih => simp [ih, hk, Nat.add_mul, Nat.add_comm]
theorem flat_get : ∀ (l : List α) (i j : Nat), j < k → (l.flatMap enc)[i * k + j]? = (l[i]?).bind fun a => (enc a)[j]? := by
  intro l
  induction l with
  | nil => simp
  | cons a l ih =>
    intro i j hj
    cases i with
    | zero => simp [List.getElem?_append, hk, hj]
    | succ i =>
      have e : (i + 1) * k + j = k + (i * k + j) := by rw [Nat.add_mul]; omega
      rw [List.flatMap_cons, e, List.getElem?_append_right (by rw [hk]; omega), hk]
      simpa using ih i j hj
theorem flat_set : ∀ (l : List α) (i j : Nat) (a a' : α) (v : Value), j < k → l[i]? = some a → enc a' = (enc a).set j v →
    (l.flatMap enc).set (i * k + j) v = (l.set i a').flatMap enc := by
  intro l
  induction l with
  | nil => simp
  | cons b l ih =>
    intro i j a a' v hj hi he
    cases i with
    | zero =>
      simp at hi; subst hi
      simp [hk, hj, he]
    | succ i =>
      have e : (i + 1) * k + j = k + (i * k + j) := by rw [Nat.add_mul]; omega
      rw [List.flatMap_cons, e, List.set_append_right _ _ (by rw [hk]; omega), hk]
      simp only [List.set_cons_succ, List.flatMap_cons]
      rw [← ih i j a a' v hj (by simpa using hi) he]
      congr 2; omega
end
/-- The row of an element type: t is []E, E's zero is z, of size cells and bytes bytes. -/
structure Elem (P : Program) (t E : TypeId) (z : Value) (size bytes : Nat) : Prop where
  ut : P.underlying t = some (.slice E)
  info : (P.info? E).map (fun i => (i.zero, i.size, i.bytes)) = some (some z, size, bytes)
  zs : z.cells.size = size
  pos : 0 < size

theorem Fr.of_grown {w w' : World} {row : Option Nat} (hg : w.grownBy w' row) : Fr row.toList w w' :=
  ⟨hg.os, hg.tape, hg.output, hg.size, fun k hk hx => hg.block k hk (by cases row <;> simp_all)⟩

/-- append(s, u), u one element, just made into a slice of its own. -/
theorem wpList_app1 {P : Program} {t E : TypeId} {z : Value} {size bytes : Nat} (el : Elem P t E z size bytes)
    {ops : Array Oper} {rest : List Oper} {o : Oper} {a : Act} {Q : Exit → Act → World → Prop} {W : World} (hgd : o.guard = none) (s x : Operand)
    (ho : o.op = .call { callee := .builtin .append, args := #[s, x], argTypes := #[t, t] })
    {base : Nat} {v : Value} {n : Nat} {xs : List Value} (hown : W.ownsRow base E size v n xs) (hs : a.eval s = v)
    {T : TypeId} (us : List Value) (hx : a.eval x = .slice (some ⟨W.heap.size, 0, none⟩) 1 1) (hl : us.length = size) (h1 : ∀ u ∈ us, u.oneCell' = true)
    (h63 : n + 1 ≤ maxLen) (hbytes : (n + 1) * bytes ≤ 140737488355328) (hbase : base ≤ W.heap.size)
    (h : ∀ v' w', w'.ownsRow base E size v' (n + 1) (xs ++ us) → Fr v.ownBlock.toList W w' → v' ≠ .slice none 0 0 → wpList P ops Q rest (a.put o.dst v') w') :
    wpList P ops Q (o :: rest) a (W.alloc (.cells us.toArray T)) := by
  obtain ⟨i, hi, hz, hsz, hb⟩ := info_parts el.info
  refine wpList_append_own _ hgd s x t ho base E i z size bytes el.ut hi hz hsz hb el.zs el.pos v n xs hs (hown.alloc _) ⟨W.heap.size, 0, none⟩ 1 1 us hx (by simpa using hl) ?_ h1 h63 hbytes (by simp; omega) ?_
  · intro j u hj
    have e : (⟨W.heap.size, 0, none⟩ : Addr).add j = ⟨W.heap.size, j, none⟩ := by unfold Addr.add; split <;> simp_all
    rw [e, World.cell?_alloc_new]
    simpa using hj
  · intro v' w' h2 h3 h4
    refine h v' w' h2 (((Fr.refl _ _).alloc _).trans (Fr.of_grown h3)) ?_
    intro hn; simpa using h4.1 hn

theorem le_maxLen {n : Nat} (h : n ≤ 9223372036854775807) : n ≤ maxLen := h

/-- What is owned whole is the block's content. -/
theorem own_blk {w : World} {base E size g n : Nat} {xs : List Value} (h : w.ownsRow base E size (.slice (some ⟨g, 0, none⟩) n n) n xs) : Blk w g E xs := by
  rcases h.2 with ⟨h', _⟩ | ⟨g', cap', cur, h', _, hg, _, _, hs, ht⟩
  · simp at h'
  · simp only [Value.slice.injEq, Option.some.injEq, Addr.mk.injEq, and_true, true_and] at h'
    obtain ⟨rfl, rfl⟩ := h'
    unfold Blk
    rw [hg, ← ht, List.take_of_length_le (by simp [hs])]

theorem made_flat {α : Type} (enc : α → List Value) (d : α) (z : Array Value) (hz : enc d = z.toList) (n : Nat) :
    (madeCells z (n * z.size)).toList = (List.replicate n d).flatMap enc := by
  have hc : ∀ _ : Unit, (enc d).length = z.size := fun _ => by simp [hz]
  have e : (List.replicate n d).flatMap enc = (List.replicate n ()).flatMap fun _ => enc d := by
    induction n with
    | zero => rfl
    | succ n ih => simp [List.replicate_succ, ih]
  rw [e]
  apply List.ext_getElem?
  intro j
  rcases Nat.eq_zero_or_pos z.size with h0 | hp
  · simp [madeCells, h0, List.flatMap_replicate, hz, List.eq_nil_of_length_eq_zero (by simpa using h0 : z.toList.length = 0)]
  · have hj := Nat.div_add_mod' j z.size
    have hm := Nat.mod_lt j hp
    rw [← hj, flat_get hc _ _ _ hm]
    by_cases hlt : j / z.size < n
    · have hb : j / z.size * z.size + j % z.size < n * z.size := by
        have := Nat.mul_le_mul_right z.size (show j / z.size + 1 ≤ n from hlt)
        rw [Nat.add_mul] at this; omega
      rw [hj] at hb
      simp [madeCells, hj, hb, hlt, hz, hm]
    · have hb : ¬ j < n * z.size := by
        have := Nat.mul_le_mul_right z.size (show n ≤ j / z.size by omega)
        omega
      simp [madeCells, hj, hb, hlt]

theorem own_cells {w : World} {base E size g n c : Nat} {xs : List Value} (h : w.ownsRow base E size (.slice (some ⟨g, 0, none⟩) n c) n xs) : ∀ j u, xs[j]? = some u → w.cell? ((⟨g, 0, none⟩ : Addr).add j) = some u :=
  h.cells rfl
theorem own_fr {w w' : World} {S : List Nat} {base E size n : Nat} {v : Value} {xs : List Value} (h : w.ownsRow base E size v n xs) (hf : Fr S w w') (hS : ∀ k, v.ownBlock = some k → k ∉ S) : w'.ownsRow base E size v n xs := by
  refine ⟨h.1, ?_⟩
  rcases h.2 with hn | ⟨g, cap, cur, rfl, hb, hgg, rest⟩
  · exact .inl hn
  · refine .inr ⟨g, cap, cur, rfl, hb, ?_, rest⟩
    rw [hf.block g (Array.getElem?_eq_some_iff.1 hgg).1 (hS g rfl)]
    exact hgg
/-- A block of another type is not the owned one. -/
theorem own_ne {w : World} {base E size n : Nat} {v : Value} {xs : List Value} (h : w.ownsRow base E size v n xs) {b T : Nat} {c : List Value} (hb : Blk w b T c) (hT : E ≠ T) : ∀ k, v.ownBlock = some k → k ≠ b := by
  rintro k hk rfl
  rcases h.2 with ⟨rfl, -⟩ | ⟨g, cap, cur, rfl, -, hgg, -⟩
  · simp [Value.ownBlock] at hk
  · simp only [Value.ownBlock, Option.some.injEq] at hk
    subst hk
    unfold Blk at hb
    rw [hgg] at hb; simp at hb; exact hT hb.2
theorem own_base {w : World} {base base' E size n : Nat} {v : Value} {xs : List Value} (h : w.ownsRow base E size v n xs) (hb : base' ≤ base) : w.ownsRow base' E size v n xs := by
  refine ⟨h.1, ?_⟩
  rcases h.2 with hn | ⟨g, cap, cur, rfl, hbg, hgg, rest⟩
  · exact .inl hn
  · exact .inr ⟨g, cap, cur, rfl, Nat.le_trans hb hbg, hgg, rest⟩
/-- An owned slice's shape. -/
theorem own_form {w : World} {base E size n : Nat} {v : Value} {xs : List Value} (h : w.ownsRow base E size v n xs) (hn : 0 < n) : ∃ g c, v = .slice (some ⟨g, 0, none⟩) n c ∧ base ≤ g ∧ g < w.heap.size := by
  rcases h.2 with ⟨rfl, h0⟩ | ⟨g, cap, cur, rfl, hbg, hgg, rest⟩
  · omega
  · exact ⟨g, cap, rfl, hbg, (Array.getElem?_eq_some_iff.1 hgg).1⟩

/-- append([]T{}, s...), s not empty. -/
theorem wpList_appcopy {P : Program} {t E : TypeId} {z : Value} {size bytes : Nat} (el : Elem P t E z size bytes)
    {ops : Array Oper} {rest : List Oper} {o : Oper} {a : Act} {Q : Exit → Act → World → Prop} {w : World} (hgd : o.guard = none) (s x : Operand)
    (ho : o.op = .call { callee := .builtin .append, args := #[s, x], argTypes := #[t, t] })
    {ad : Addr} (hs : a.eval s = .slice (some ad) 0 0)
    {base g m c : Nat} {xs : List Value} (hown : w.ownsRow base E size (.slice (some ⟨g, 0, none⟩) m c) m xs) (hx : a.eval x = .slice (some ⟨g, 0, none⟩) m c) (h1 : ∀ u ∈ xs, u.oneCell' = true)
    (hm : 0 < m) (h63 : m ≤ 9223372036854775807) (hbytes : m * bytes ≤ 140737488355328)
    (h : ∀ g' c' w', w'.ownsRow w.heap.size E size (.slice (some ⟨g', 0, none⟩) m c') m xs → Fr [] w w' → w.heap.size ≤ g' → g' < w'.heap.size → wpList P ops Q rest (a.put o.dst (.slice (some ⟨g', 0, none⟩) m c')) w') :
    wpList P ops Q (o :: rest) a w := by
  obtain ⟨i, hi, hz, hsz, hb⟩ := info_parts el.info
  refine wpList_append_grows w hgd s x t ho E i z size bytes el.ut hi hz hsz hb el.zs el.pos (some ad) 0 0 [] hs (by simp) (by simp) (by simp) ⟨g, 0, none⟩ m c xs hx hown.1 (own_cells hown) h1 (by omega) (by rw [Nat.zero_add]; exact le_maxLen h63) (by rw [Nat.zero_add]; exact hbytes) ?_
  intro v' w' h2 h3
  simp only [Nat.zero_add, List.nil_append] at h2
  obtain ⟨g', c', rfl, h4, h5⟩ := own_form h2 hm
  exact h g' c' w' h2 ((Fr.of_grown h3).mono (by simp)) h4 h5

theorem wp_name {P : Program} {c : Code} {Q : Exit → Act → World → Prop} {a : Act} {w : World} (h : ∀ w1, w1 = w → c.wp P Q a w1) : c.wp P Q a w := h w rfl

theorem fr_set {w : World} {b i : Nat} {v : Value} : Fr [b] w (w.setCell ⟨b, i, none⟩ v) := (Fr.refl _ _).setCell (by simp) _
/-- A store into an owned row. -/
theorem own_set {w : World} {base E size g n c : Nat} {xs : List Value} (h : w.ownsRow base E size (.slice (some ⟨g, 0, none⟩) n c) n xs) (j : Nat) (u : Value) :
    (w.setCell ⟨g, j, none⟩ u).ownsRow base E size (.slice (some ⟨g, 0, none⟩) n c) n (xs.set j u) := (h.stored j u).1
theorem own_cell {w : World} {base E g n c : Nat} {xs : List Value} (h : w.ownsRow base E 1 (.slice (some ⟨g, 0, none⟩) n c) n xs) {j : Nat} {v : Value} (hv : xs[j]? = some v) : w.cell? ⟨g, j, none⟩ = some v := by
  have h1 := h.1
  have : j < xs.length := (List.getElem?_eq_some_iff.1 hv).1
  rw [h.cellAt j (by omega), hv]
theorem own_free {w : World} {base E size g n c : Nat} {xs : List Value} (h : w.ownsRow base E size (.slice (some ⟨g, 0, none⟩) n c) n xs) (j : Nat) : w.frozen? ⟨g, j, none⟩ = false := h.frozenAt j

theorem own_ne2 {w : World} {base E size n base' E' size' n' g c g' c' : Nat} {xs xs' : List Value} (h : w.ownsRow base E size (.slice (some ⟨g, 0, none⟩) n c) n xs) (h' : w.ownsRow base' E' size' (.slice (some ⟨g', 0, none⟩) n' c') n' xs') (hE : E ≠ E') : g ≠ g' := by
  rcases h'.2 with ⟨h0, -⟩ | ⟨g1, cap, cur, h1, -, hgg, -⟩
  · simp at h0
  · simp only [Value.slice.injEq, Option.some.injEq, Addr.mk.injEq, and_true, true_and] at h1
    obtain ⟨rfl, rfl⟩ := h1
    exact own_ne h (b := g') (T := E') (c := cur.toList) (by unfold Blk; simpa using hgg) hE g rfl

theorem own_setW {w w2 : World} {base E size g n c j : Nat} {xs : List Value} {u : Value} (h : w.ownsRow base E size (.slice (some ⟨g, 0, none⟩) n c) n xs) (hw : w2 = w.setCell ⟨g, j, none⟩ u) :
    w2.ownsRow base E size (.slice (some ⟨g, 0, none⟩) n c) n (xs.set j u) := by rw [hw]; exact own_set h j u

theorem ret_name {P : Program} {fn : Func} {R : Ending → World → Prop} {e : Exit} {a : Act} {w : World} (h : ∀ w1, w1 = w → bodyPost P fn R e a w1) : bodyPost P fn R e a w := h w rfl

theorem Blk.cells4 {w : World} {q T : Nat} {a b c d : Value} (h : Blk w q T [a, b, c, d]) :
    w.cell? ⟨q, 0, none⟩ = some a ∧ w.cell? ⟨q, 1, none⟩ = some b ∧ w.cell? ⟨q, 2, none⟩ = some c ∧ w.cell? ⟨q, 3, none⟩ = some d ∧ (∀ j, w.frozen? ⟨q, j, none⟩ = false) :=
  ⟨h.cell rfl, h.cell rfl, h.cell rfl, h.cell rfl, fun j => h.free j⟩
theorem Blk.four {w w2 : World} {q T : Nat} {a b c d a' b' c' d' : Value} (h : Blk w q T [a, b, c, d])
    (hw : w2 = (((w.setCell ⟨q, 0, none⟩ a').setCell ⟨q, 1, none⟩ b').setCell ⟨q, 2, none⟩ c').setCell ⟨q, 3, none⟩ d') : Blk w2 q T [a', b', c', d'] ∧ Fr [q] w w2 := by
  subst hw
  exact ⟨by simpa using (((h.set 0 a').set 1 b').set 2 c').set 3 d', ((fr_set.trans fr_set).trans fr_set).trans fr_set⟩

/-- The same, and the new slice's shape. -/
theorem wpList_app1s {P : Program} {t E : TypeId} {z : Value} {size bytes : Nat} (el : Elem P t E z size bytes)
    {ops : Array Oper} {rest : List Oper} {o : Oper} {a : Act} {Q : Exit → Act → World → Prop} {W : World} (hgd : o.guard = none) (s x : Operand)
    (ho : o.op = .call { callee := .builtin .append, args := #[s, x], argTypes := #[t, t] })
    {base : Nat} {v : Value} {n : Nat} {xs : List Value} (hown : W.ownsRow base E size v n xs) (hs : a.eval s = v)
    {T : TypeId} (us : List Value) (hx : a.eval x = .slice (some ⟨W.heap.size, 0, none⟩) 1 1) (hl : us.length = size) (h1 : ∀ u ∈ us, u.oneCell' = true)
    (h63 : n + 1 ≤ 9223372036854775807) (hbytes : (n + 1) * bytes ≤ 140737488355328) (hbase : base ≤ W.heap.size)
    (h : ∀ g c w', w'.ownsRow base E size (.slice (some ⟨g, 0, none⟩) (n + 1) c) (n + 1) (xs ++ us) → Fr v.ownBlock.toList W w' → base ≤ g → g < w'.heap.size →
      (v.ownBlock = some g ∨ W.heap.size ≤ g) → wpList P ops Q rest (a.put o.dst (.slice (some ⟨g, 0, none⟩) (n + 1) c)) w') :
    wpList P ops Q (o :: rest) a (W.alloc (.cells us.toArray T)) := by
  obtain ⟨i, hi, hz, hsz, hb⟩ := info_parts el.info
  have hnews : ∀ j u, us[j]? = some u → (W.alloc (.cells us.toArray T)).cell? ((⟨W.heap.size, 0, none⟩ : Addr).add j) = some u := by
    intro j u hj
    have e : (⟨W.heap.size, 0, none⟩ : Addr).add j = ⟨W.heap.size, j, none⟩ := by unfold Addr.add; split <;> simp_all
    rw [e, World.cell?_alloc_new]
    simpa using hj
  -- a row that grows lies in a new block: the base is put up to the heap's size there
  by_cases hroom : ∃ g cap, v = .slice (some ⟨g, 0, none⟩) n cap ∧ n + 1 ≤ cap
  · obtain ⟨g, cap, rfl, hcap⟩ := hroom
    obtain ⟨w', hrun, h2, h3⟩ := run_append_fits (P := P) (W.alloc (.cells us.toArray T)) base t o.type E i size el.ut hi hsz g n cap xs (hown.alloc _) ⟨W.heap.size, 0, none⟩ 1 1 us (by simpa using hl) hnews h1 hcap
    refine wpList_plain hgd fun K hK => ?_
    unfold Oper.wp
    simp [execOp, ho, resolve, invoke, builtin, hs, hx, hrun, Result.andThen]
    have hlt := hown.lt g rfl
    exact hK _ _ (h g cap w' h2 (((Fr.refl _ _).alloc _).trans (Fr.of_grown h3)) hlt.1 (by have := h3.size; simp at this; omega) (.inl rfl))
  · -- it grows
    rcases hown.2 with ⟨rfl, rfl⟩ | ⟨g, cap, cur, rfl, hbg, hg, hnc, hcm, hcs, htake⟩
    · have hx0 : xs = [] := List.eq_nil_of_length_eq_zero (by simpa using hown.1)
      subst hx0
      refine wpList_append_grows _ hgd s x t ho E i z size bytes el.ut hi hz hsz hb el.zs el.pos none 0 0 [] hs (by simp) (by simp) (by simp) ⟨W.heap.size, 0, none⟩ 1 1 us hx (by simpa using hl) hnews h1 (by omega) (by simp [maxLen]) (by simpa using hbytes) ?_
      intro v' w' h2 h3
      obtain ⟨g', c', rfl, h4, h5⟩ := own_form h2 (by omega)
      simp only [World.size_alloc] at h4
      exact h g' c' w' (own_base h2 (by simp; omega)) (((Fr.refl _ _).alloc _).trans ((Fr.of_grown h3).mono (by simp))) (by omega) h5 (.inr (by omega))
    · have hfull : cap < n + 1 := by
        rcases Nat.lt_or_ge cap (n + 1) with h' | h'
        · exact h'
        · exact absurd ⟨g, cap, rfl, h'⟩ hroom
      refine wpList_append_grows _ hgd s x t ho E i z size bytes el.ut hi hz hsz hb el.zs el.pos (some ⟨g, 0, none⟩) n cap xs hs (by simp) hown.1 (fun b hb' => by simp at hb'; subst hb'; exact own_cells (hown.alloc _)) ⟨W.heap.size, 0, none⟩ 1 1 us hx (by simpa using hl) hnews h1 hfull h63 hbytes ?_
      intro v' w' h2 h3
      obtain ⟨g', c', rfl, h4, h5⟩ := own_form h2 (by omega)
      simp only [World.size_alloc] at h4
      exact h g' c' w' (own_base h2 (by simp; omega)) (((Fr.refl _ _).alloc _).trans ((Fr.of_grown h3).mono (by simp))) (by omega) h5 (.inr (by omega))

/-- A fact on memory, and the blocks of which it speaks. -/
structure Asn where
  fp : List Nat
  p : World → Prop
  st : ∀ w w', p w → (∀ k ∈ fp, w'.heap[k]? = w.heap[k]?) → p w'
  lt : ∀ w, p w → ∀ k ∈ fp, k < w.heap.size
/-- Facts on memory, each of blocks of its own. -/
structure Sep (w : World) (L : List Asn) : Prop where
  all : ∀ A ∈ L, A.p w
  dis : L.Pairwise (fun A B => ∀ k ∈ A.fp, k ∉ B.fp)

def aBlk (b T : Nat) (c : List Value) : Asn :=
  ⟨[b], fun w => Blk w b T c, fun w w' h hk => by unfold Blk; rw [hk b (by simp)]; exact h, fun w h k hk => by simp at hk; subst hk; exact h.lt⟩
def aOwn (base E size : Nat) (v : Value) (n : Nat) (xs : List Value) : Asn :=
  ⟨v.ownBlock.toList, fun w => w.ownsRow base E size v n xs, fun w w' h hk => by
    refine ⟨h.1, ?_⟩
    rcases h.2 with hn | ⟨g, cap, cur, rfl, hb, hgg, rest⟩
    · exact .inl hn
    · exact .inr ⟨g, cap, cur, rfl, hb, by rw [hk g (by simp [Value.ownBlock])]; exact hgg, rest⟩, fun w h k hk => (h.lt k (by simpa using hk)).2⟩

section
variable {w w' : World} {L : List Asn}
theorem Sep.nil (w : World) : Sep w [] := ⟨by simp, .nil⟩
theorem Sep.get (h : Sep w L) (i : Nat) {A : Asn} (hi : L[i]? = some A) : A.p w := h.all A (List.mem_of_getElem? hi)
/-- Nothing of L's has turned. -/
theorem Sep.keep {S : List Nat} (h : Sep w L) (f : Fr S w w') (hS : ∀ k ∈ S, w.heap.size ≤ k ∨ ∀ A ∈ L, k ∉ A.fp) : Sep w' L :=
  ⟨fun A hA => A.st w w' (h.all A hA) (fun k hk => f.block k (A.lt w (h.all A hA) k hk) (fun hx => (hS k hx).elim (fun h' => by have := A.lt w (h.all A hA) k hk; omega) (fun h' => h' A hA hk))), h.dis⟩
theorem Sep.fr0 (h : Sep w L) (f : Fr [] w w') : Sep w' L := h.keep f (by simp)
/-- One fact's blocks have turned. -/
theorem Sep.upd (h : Sep w L) (i : Nat) {A : Asn} (hi : L[i]? = some A) {S : List Nat} (f : Fr S w w') (hS : ∀ k ∈ S, k ∈ A.fp ∨ w.heap.size ≤ k) (B : Asn) (hB : B.p w') (hfp : ∀ k ∈ B.fp, k ∈ A.fp ∨ w.heap.size ≤ k) : Sep w' (L.set i B) := by
  have hil : i < L.length := (List.getElem?_eq_some_iff.1 hi).1
  have hA : L[i] = A := by rw [List.getElem?_eq_getElem hil] at hi; simpa using hi
  have hd := h.dis
  rw [List.pairwise_iff_getElem] at hd
  have other : ∀ j (hj : j < L.length), j ≠ i → ∀ k ∈ (L[j]).fp, k ∉ A.fp := by
    intro j hj hji k hk hkA
    subst hA
    rcases Nat.lt_or_gt_of_ne hji with h' | h'
    · exact hd j i hj hil h' k hk hkA
    · exact hd i j hil hj h' k hkA hk
  have olt : ∀ j (hj : j < L.length), ∀ k ∈ (L[j]).fp, k < w.heap.size := fun j hj k hk => (L[j]).lt w (h.all _ (List.getElem_mem hj)) k hk
  refine ⟨fun C hC => ?_, ?_⟩
  · obtain ⟨j, hj, rfl⟩ := List.getElem_of_mem hC
    simp only [List.length_set] at hj
    rw [List.getElem_set]
    split
    · exact hB
    · rename_i hne
      refine (L[j]).st w w' (h.all _ (List.getElem_mem hj)) (fun k hk => f.block k (olt j hj k hk) (fun hx => ?_))
      rcases hS k hx with h' | h'
      · exact other j hj (fun h'' => hne h''.symm) k hk h'
      · have := olt j hj k hk; omega
  · rw [List.pairwise_iff_getElem]
    intro a b ha hb hab k hk hk'
    simp only [List.length_set] at ha hb
    rw [List.getElem_set] at hk hk'
    split at hk
    · rename_i hia
      rw [if_neg (by omega)] at hk'
      rcases hfp k hk with h' | h'
      · exact other b hb (by omega) k hk' h'
      · have := olt b hb k hk'; omega
    · split at hk'
      · rcases hfp k hk' with h' | h'
        · exact other a ha (by omega) k hk h'
        · have := olt a ha k hk; omega
      · exact hd a b ha hb hab k hk hk'
/-- A fact on new blocks. -/
theorem Sep.cons (h : Sep w L) (f : Fr [] w w') (B : Asn) (hB : B.p w') (hn : ∀ k ∈ B.fp, w.heap.size ≤ k) : Sep w' (B :: L) := by
  have h' := h.fr0 f
  refine ⟨fun A hA => ?_, List.pairwise_cons.2 ⟨fun A hA k hk hkA => ?_, h'.dis⟩⟩
  · rcases List.mem_cons.1 hA with rfl | hA
    · exact hB
    · exact h'.all A hA
  · have := A.lt w (h.all A hA) k hkA
    have := hn k hk; omega
theorem Sep.tail {A : Asn} (h : Sep w (A :: L)) : Sep w L := ⟨fun B hB => h.all B (List.mem_cons_of_mem _ hB), (List.pairwise_cons.1 h.dis).2⟩
theorem Sep.sub {M : List Asn} (h : Sep w L) (hs : M.Sublist L) : Sep w M := ⟨fun B hB => h.all B (hs.subset hB), h.dis.sublist hs⟩
/-- Two facts' blocks are apart. -/
theorem Sep.ne (h : Sep w L) (i j : Nat) {A B : Asn} (hi : L[i]? = some A) (hj : L[j]? = some B) (hij : i ≠ j) {k k' : Nat} (hk : k ∈ A.fp) (hk' : k' ∈ B.fp) : k ≠ k' := by
  rintro rfl
  have hil : i < L.length := (List.getElem?_eq_some_iff.1 hi).1
  have hjl : j < L.length := (List.getElem?_eq_some_iff.1 hj).1
  have hA : L[i] = A := by rw [List.getElem?_eq_getElem hil] at hi; simpa using hi
  have hB : L[j] = B := by rw [List.getElem?_eq_getElem hjl] at hj; simpa using hj
  have hd := h.dis
  rw [List.pairwise_iff_getElem] at hd
  subst hA; subst hB
  rcases Nat.lt_or_gt_of_ne hij with h' | h'
  · exact hd i j hil hjl h' k hk hk'
  · exact hd j i hjl hil h' k hk' hk
end

theorem own_fp {base E size n base' E' size' n' g c N : Nat} {v : Value} {xs xs' : List Value} (h : v.ownBlock = some g ∨ N ≤ g) :
    ∀ k ∈ (aOwn base' E' size' (.slice (some ⟨g, 0, none⟩) n' c) n' xs').fp, k ∈ (aOwn base E size v n xs).fp ∨ N ≤ k := by
  intro k hk
  obtain rfl : k = g := by simpa [aOwn, Value.ownBlock] using hk
  simpa [aOwn] using h

end Go.Proofs.Ytbmejolmbfmdiaa
