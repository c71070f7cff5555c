import Derived.WalkKit
import Derived.WalkSpells
import Derived.WalkLawsBesides
import Derived.Deep.LoopGhost
import Derived.Deep.QuietTactic
import Derived.BigQuiet
import Derived.Maps.OwnSet
import Derived.Maps.RangeWalk
import Derived.ProofKit
import Derived.Below
namespace Go.Proofs.Ytogjfcmclfehkaa
open Go.RowKit

theorem hid {p : Prop} (h : p) : Hid p := h

/-- Block b is a row of the cells c, of type T, none frozen. -/
def Blk (w : World) (b : Nat) (T : TypeId) (c : List Value) : Prop := w.heap[b]? = some (.cells c.toArray T (0, 0))

/-- w' is w, but for new blocks, draws, and the blocks in S. -/
structure Fr (S : List Nat) (w w' : World) : Prop where
  os : w'.os = w.os
  tape : w'.tape = w.tape
  output : w'.output = w.output
  size : w.heap.size ≤ w'.heap.size
  block : ∀ k, k < w.heap.size → k ∉ S → w'.heap[k]? = w.heap[k]?

theorem Fr.refl (S : List Nat) (w : World) : Fr S w w := ⟨rfl, rfl, rfl, Nat.le_refl _, fun _ _ _ => rfl⟩
theorem Fr.trans {S : List Nat} {a b c : World} (h : Fr S a b) (k : Fr S b c) : Fr S a c :=
  ⟨k.os.trans h.os, k.tape.trans h.tape, k.output.trans h.output, Nat.le_trans h.size k.size, fun i hi hs => (k.block i (Nat.lt_of_lt_of_le hi h.size) hs).trans (h.block i hi hs)⟩
/-- What S lacks of T are blocks that are new. -/
theorem Fr.weak {S T : List Nat} {a b c : World} (h : Fr S a b) (k : Fr T b c) (hT : ∀ x ∈ T, x ∈ S ∨ a.heap.size ≤ x) : Fr S a c :=
  ⟨k.os.trans h.os, k.tape.trans h.tape, k.output.trans h.output, Nat.le_trans h.size k.size, fun i hi hs =>
    (k.block i (Nat.lt_of_lt_of_le hi h.size) (fun hx => (hT i hx).elim hs (fun h' => by omega))).trans (h.block i hi hs)⟩
theorem Fr.mono {S T : List Nat} {a b : World} (h : Fr S a b) (hT : ∀ x ∈ S, x ∈ T) : Fr T a b :=
  ⟨h.os, h.tape, h.output, h.size, fun i hi hs => h.block i hi (fun hx => hs (hT i hx))⟩
theorem Fr.drew {S : List Nat} {a w : World} (h : Fr S a w) : Fr S a w.drew := ⟨h.os, h.tape, h.output, h.size, h.block⟩
theorem Fr.drewN {S : List Nat} {a w : World} (h : Fr S a w) (n : Nat) : Fr S a (w.drewN n) := ⟨h.os, h.tape, h.output, h.size, h.block⟩
theorem Fr.alloc {S : List Nat} {a w : World} (h : Fr S a w) (o : Obj) : Fr S a (w.alloc o) :=
  h.trans ⟨rfl, rfl, rfl, by simp, fun k hk _ => Below.heap_alloc _ _ _ hk⟩
theorem Fr.setCell {S : List Nat} {a w : World} (h : Fr S a w) {p : Addr} (hp : p.block ∈ S ∨ a.heap.size ≤ p.block) (u : Value) : Fr S a (w.setCell p u) :=
  h.weak (T := [p.block]) ⟨rfl, rfl, rfl, by simp, fun k _ hk => Below.heap_setCell _ _ _ _ (by simpa using hk)⟩ (by simpa using hp)
theorem Fr.grown {S : List Nat} {a w w' : World} {row : Option Nat} (h : Fr S a w) (hg : w.grownBy w' row) (hr : ∀ k, row = some k → k ∈ S ∨ a.heap.size ≤ k) : Fr S a w' :=
  h.weak (T := row.toList) ⟨hg.os, hg.tape, hg.output, hg.size, fun k hk hx => hg.block k hk (by cases row <;> simp_all)⟩ (by intro x hx; exact hr x (by simpa using hx))
theorem Fr.below {S : List Nat} {w w' : World} (h : Fr S w w') (hS : ∀ x ∈ S, w.heap.size ≤ x) : Below w.heap.size w w' :=
  ⟨h.os, h.tape, h.output, h.size, fun k hk => h.block k hk (fun hx => by have := hS k hx; omega)⟩
theorem Fr.new {S : List Nat} {w w' : World} (h : Fr S w w') (hS : ∀ x ∈ S, w.heap.size ≤ x) : Fr [] w w' :=
  ⟨h.os, h.tape, h.output, h.size, fun k hk _ => h.block k hk (fun hx => by have := hS k hx; omega)⟩

section
variable {w w' : World} {b T : Nat} {c : List Value}
theorem Blk.lt (h : Blk w b T c) : b < w.heap.size := (Array.getElem?_eq_some_iff.1 h).1
theorem Blk.fr {S : List Nat} (h : Blk w b T c) (hf : Fr S w w') (hb : b ∉ S) : Blk w' b T c := by unfold Blk; rw [hf.block b h.lt hb]; exact h
theorem Blk.cell (h : Blk w b T c) {i : Nat} {v : Value} (hv : c[i]? = some v) : w.cell? ⟨b, i, none⟩ = some v := by
  unfold Blk at h; simp [World.cell?, h, hv]
theorem Blk.free (h : Blk w b T c) (i : Nat) : w.frozen? ⟨b, i, none⟩ = false := by
  unfold Blk at h; simp [World.frozen?, h]
theorem Blk.alloc (h : Blk w b T c) (o : Obj) : Blk (w.alloc o) b T c := by unfold Blk; rw [Below.heap_alloc _ _ _ h.lt]; exact h
theorem Blk.drew (h : Blk w b T c) : Blk w.drew b T c := h
theorem Blk.set (h : Blk w b T c) (i : Nat) (v : Value) : Blk (w.setCell ⟨b, i, none⟩ v) b T (c.set i v) := by
  unfold Blk at *
  simp [World.setCell, Array.getElem?_modify, h]
theorem Blk.other (h : Blk w b T c) {a : Addr} (hb : b ≠ a.block) (v : Value) : Blk (w.setCell a v) b T c := by
  unfold Blk; rw [Below.heap_setCell _ _ _ _ hb]; exact h
theorem Blk.ne {b' T' : Nat} {c' : List Value} (h : Blk w b T c) (h' : Blk w b' T' c') (hT : T ≠ T') : b ≠ b' := by
  rintro rfl; unfold Blk at *; rw [h] at h'; simp at h'; exact hT h'.2
theorem Blk.new (w : World) (T : Nat) (c : List Value) : Blk (w.alloc (.cells c.toArray T)) w.heap.size T c := by
  unfold Blk; exact heap_alloc_new w _
end

section
variable {α : Type} {enc : α → List Value} {k : Nat} (hk : ∀ a, (enc a).length = k)
include hk
theorem flat_len (l : List α) : (l.flatMap enc).length = l.length * k := by
  induction l with
  | nil => simp
  | cons a l ih => simp [ih, hk, Nat.add_mul, Nat.add_comm]
theorem flat_get : ∀ (l : List α) (i j : Nat), j < k → (l.flatMap enc)[i * k + j]? = (l[i]?).bind fun a => (enc a)[j]? := by
  intro l
  induction l with
  | nil => simp
  | cons a l ih =>
    intro i j hj
    cases i with
    | zero => simp [List.getElem?_append, hk, hj]
    | succ i =>
      have e : (i + 1) * k + j = k + (i * k + j) := by rw [Nat.add_mul]; omega
      rw [List.flatMap_cons, e, List.getElem?_append_right (by rw [hk]; omega), hk]
      simpa using ih i j hj
theorem flat_set : ∀ (l : List α) (i j : Nat) (a a' : α) (v : Value), j < k → l[i]? = some a → enc a' = (enc a).set j v →
    (l.flatMap enc).set (i * k + j) v = (l.set i a').flatMap enc := by
  intro l
  induction l with
  | nil => simp
  | cons b l ih =>
    intro i j a a' v hj hi he
    cases i with
    | zero =>
      simp at hi; subst hi
      simp [hk, hj, he]
    | succ i =>
      have e : (i + 1) * k + j = k + (i * k + j) := by rw [Nat.add_mul]; omega
      rw [List.flatMap_cons, e, List.set_append_right _ _ (by rw [hk]; omega), hk]
      simp only [List.set_cons_succ, List.flatMap_cons]
      rw [← ih i j a a' v hj (by simpa using hi) he]
      congr 2; omega
end
/-- The row of an element type: t is []E, E's zero is z, of size cells and bytes bytes. -/
structure Elem (P : Program) (t E : TypeId) (z : Value) (size bytes : Nat) : Prop where
  ut : P.underlying t = some (.slice E)
  info : (P.info? E).map (fun i => (i.zero, i.size, i.bytes)) = some (some z, size, bytes)
  zs : z.cells.size = size
  pos : 0 < size

theorem Fr.of_grown {w w' : World} {row : Option Nat} (hg : w.grownBy w' row) : Fr row.toList w w' :=
  ⟨hg.os, hg.tape, hg.output, hg.size, fun k hk hx => hg.block k hk (by cases row <;> simp_all)⟩

theorem le_maxLen {n : Nat} (h : n ≤ 9223372036854775807) : n ≤ maxLen := h

/-- What is owned whole is the block's content. -/
theorem own_blk {w : World} {base E size g n : Nat} {xs : List Value} (h : w.ownsRow base E size (.slice (some ⟨g, 0, none⟩) n n) n xs) : Blk w g E xs := by
  rcases h.2 with ⟨h', _⟩ | ⟨g', cap', cur, h', _, hg, _, _, hs, ht⟩
  · simp at h'
  · simp only [Value.slice.injEq, Option.some.injEq, Addr.mk.injEq, and_true, true_and] at h'
    obtain ⟨rfl, rfl⟩ := h'
    unfold Blk
    rw [hg, ← ht, List.take_of_length_le (by simp [hs])]

theorem made_flat {α : Type} (enc : α → List Value) (d : α) (z : Array Value) (hz : enc d = z.toList) (n : Nat) :
    (madeCells z (n * z.size)).toList = (List.replicate n d).flatMap enc := by
  have hc : ∀ _ : Unit, (enc d).length = z.size := fun _ => by simp [hz]
  have e : (List.replicate n d).flatMap enc = (List.replicate n ()).flatMap fun _ => enc d := by
    induction n with
    | zero => rfl
    | succ n ih => simp [List.replicate_succ, ih]
  rw [e]
  apply List.ext_getElem?
  intro j
  rcases Nat.eq_zero_or_pos z.size with h0 | hp
  · simp [madeCells, h0, List.flatMap_replicate, hz, List.eq_nil_of_length_eq_zero (by simpa using h0 : z.toList.length = 0)]
  · have hj := Nat.div_add_mod' j z.size
    have hm := Nat.mod_lt j hp
    rw [← hj, flat_get hc _ _ _ hm]
    by_cases hlt : j / z.size < n
    · have hb : j / z.size * z.size + j % z.size < n * z.size := by
        have := Nat.mul_le_mul_right z.size (show j / z.size + 1 ≤ n from hlt)
        rw [Nat.add_mul] at this; omega
      rw [hj] at hb
      simp [madeCells, hj, hb, hlt, hz, hm]
    · have hb : ¬ j < n * z.size := by
        have := Nat.mul_le_mul_right z.size (show n ≤ j / z.size by omega)
        omega
      simp [madeCells, hj, hb, hlt]

theorem own_cells {w : World} {base E size g n c : Nat} {xs : List Value} (h : w.ownsRow base E size (.slice (some ⟨g, 0, none⟩) n c) n xs) : ∀ j u, xs[j]? = some u → w.cell? ((⟨g, 0, none⟩ : Addr).add j) = some u :=
  h.cells rfl
theorem own_fr {w w' : World} {S : List Nat} {base E size n : Nat} {v : Value} {xs : List Value} (h : w.ownsRow base E size v n xs) (hf : Fr S w w') (hS : ∀ k, v.ownBlock = some k → k ∉ S) : w'.ownsRow base E size v n xs := by
  refine ⟨h.1, ?_⟩
  rcases h.2 with hn | ⟨g, cap, cur, rfl, hb, hgg, rest⟩
  · exact .inl hn
  · refine .inr ⟨g, cap, cur, rfl, hb, ?_, rest⟩
    rw [hf.block g (Array.getElem?_eq_some_iff.1 hgg).1 (hS g rfl)]
    exact hgg
/-- A block of another type is not the owned one. -/
theorem own_ne {w : World} {base E size n : Nat} {v : Value} {xs : List Value} (h : w.ownsRow base E size v n xs) {b T : Nat} {c : List Value} (hb : Blk w b T c) (hT : E ≠ T) : ∀ k, v.ownBlock = some k → k ≠ b := by
  rintro k hk rfl
  rcases h.2 with ⟨rfl, -⟩ | ⟨g, cap, cur, rfl, -, hgg, -⟩
  · simp [Value.ownBlock] at hk
  · simp only [Value.ownBlock, Option.some.injEq] at hk
    subst hk
    unfold Blk at hb
    rw [hgg] at hb; simp at hb; exact hT hb.2
theorem own_base {w : World} {base base' E size n : Nat} {v : Value} {xs : List Value} (h : w.ownsRow base E size v n xs) (hb : base' ≤ base) : w.ownsRow base' E size v n xs := by
  refine ⟨h.1, ?_⟩
  rcases h.2 with hn | ⟨g, cap, cur, rfl, hbg, hgg, rest⟩
  · exact .inl hn
  · exact .inr ⟨g, cap, cur, rfl, Nat.le_trans hb hbg, hgg, rest⟩
/-- An owned slice's shape. -/
theorem own_form {w : World} {base E size n : Nat} {v : Value} {xs : List Value} (h : w.ownsRow base E size v n xs) (hn : 0 < n) : ∃ g c, v = .slice (some ⟨g, 0, none⟩) n c ∧ base ≤ g ∧ g < w.heap.size := by
  rcases h.2 with ⟨rfl, h0⟩ | ⟨g, cap, cur, rfl, hbg, hgg, rest⟩
  · omega
  · exact ⟨g, cap, rfl, hbg, (Array.getElem?_eq_some_iff.1 hgg).1⟩

theorem wp_name {P : Program} {c : Code} {Q : Exit → Act → World → Prop} {a : Act} {w : World} (h : ∀ w1, w1 = w → c.wp P Q a w1) : c.wp P Q a w := h w rfl

theorem fr_set {w : World} {b i : Nat} {v : Value} : Fr [b] w (w.setCell ⟨b, i, none⟩ v) := (Fr.refl _ _).setCell (by simp) _
theorem own_cell {w : World} {base E g n c : Nat} {xs : List Value} (h : w.ownsRow base E 1 (.slice (some ⟨g, 0, none⟩) n c) n xs) {j : Nat} {v : Value} (hv : xs[j]? = some v) : w.cell? ⟨g, j, none⟩ = some v := by
  have h1 := h.1
  have : j < xs.length := (List.getElem?_eq_some_iff.1 hv).1
  rw [h.cellAt j (by omega), hv]
theorem ret_name {P : Program} {fn : Func} {R : Ending → World → Prop} {e : Exit} {a : Act} {w : World} (h : ∀ w1, w1 = w → bodyPost P fn R e a w1) : bodyPost P fn R e a w := h w rfl

/-- The same, and the new slice's shape. -/
theorem wpList_app1s {P : Program} {t E : TypeId} {z : Value} {size bytes : Nat} (el : Elem P t E z size bytes)
    {ops : Array Oper} {rest : List Oper} {o : Oper} {a : Act} {Q : Exit → Act → World → Prop} {W : World} (hgd : o.guard = none) (s x : Operand)
    (ho : o.op = .call { callee := .builtin .append, args := #[s, x], argTypes := #[t, t] })
    {base : Nat} {v : Value} {n : Nat} {xs : List Value} (hown : W.ownsRow base E size v n xs) (hs : a.eval s = v)
    {T : TypeId} (us : List Value) (hx : a.eval x = .slice (some ⟨W.heap.size, 0, none⟩) 1 1) (hl : us.length = size) (h1 : ∀ u ∈ us, u.oneCell' = true)
    (h63 : n + 1 ≤ 9223372036854775807) (hbytes : (n + 1) * bytes ≤ 140737488355328) (hbase : base ≤ W.heap.size)
    (h : ∀ g c w', w'.ownsRow base E size (.slice (some ⟨g, 0, none⟩) (n + 1) c) (n + 1) (xs ++ us) → Fr v.ownBlock.toList W w' → base ≤ g → g < w'.heap.size →
      (v.ownBlock = some g ∨ W.heap.size ≤ g) → wpList P ops Q rest (a.put o.dst (.slice (some ⟨g, 0, none⟩) (n + 1) c)) w') :
    wpList P ops Q (o :: rest) a (W.alloc (.cells us.toArray T)) := by
  obtain ⟨i, hi, hz, hsz, hb⟩ := info_parts el.info
  have hnews : ∀ j u, us[j]? = some u → (W.alloc (.cells us.toArray T)).cell? ((⟨W.heap.size, 0, none⟩ : Addr).add j) = some u := by
    intro j u hj
    have e : (⟨W.heap.size, 0, none⟩ : Addr).add j = ⟨W.heap.size, j, none⟩ := by unfold Addr.add; split <;> simp_all
    rw [e, World.cell?_alloc_new]
    simpa using hj
  -- a row that grows lies in a new block: the base is put up to the heap's size there
  by_cases hroom : ∃ g cap, v = .slice (some ⟨g, 0, none⟩) n cap ∧ n + 1 ≤ cap
  · obtain ⟨g, cap, rfl, hcap⟩ := hroom
    obtain ⟨w', hrun, h2, h3⟩ := run_append_fits (P := P) (W.alloc (.cells us.toArray T)) base t o.type E i size el.ut hi hsz g n cap xs (hown.alloc _) ⟨W.heap.size, 0, none⟩ 1 1 us (by simpa using hl) hnews h1 hcap
    refine wpList_plain hgd fun K hK => ?_
    unfold Oper.wp
    simp [execOp, ho, resolve, invoke, builtin, hs, hx, hrun, Result.andThen]
    have hlt := hown.lt g rfl
    exact hK _ _ (h g cap w' h2 (((Fr.refl _ _).alloc _).trans (Fr.of_grown h3)) hlt.1 (by have := h3.size; simp at this; omega) (.inl rfl))
  · -- it grows
    rcases hown.2 with ⟨rfl, rfl⟩ | ⟨g, cap, cur, rfl, hbg, hg, hnc, hcm, hcs, htake⟩
    · have hx0 : xs = [] := List.eq_nil_of_length_eq_zero (by simpa using hown.1)
      subst hx0
      refine wpList_append_grows _ hgd s x t ho E i z size bytes el.ut hi hz hsz hb el.zs el.pos none 0 0 [] hs (by simp) (by simp) (by simp) ⟨W.heap.size, 0, none⟩ 1 1 us hx (by simpa using hl) hnews h1 (by omega) (by simp [maxLen]) (by simpa using hbytes) ?_
      intro v' w' h2 h3
      obtain ⟨g', c', rfl, h4, h5⟩ := own_form h2 (by omega)
      simp only [World.size_alloc] at h4
      exact h g' c' w' (own_base h2 (by simp; omega)) (((Fr.refl _ _).alloc _).trans ((Fr.of_grown h3).mono (by simp))) (by omega) h5 (.inr (by omega))
    · have hfull : cap < n + 1 := by
        rcases Nat.lt_or_ge cap (n + 1) with h' | h'
        · exact h'
        · exact absurd ⟨g, cap, rfl, h'⟩ hroom
      refine wpList_append_grows _ hgd s x t ho E i z size bytes el.ut hi hz hsz hb el.zs el.pos (some ⟨g, 0, none⟩) n cap xs hs (by simp) hown.1 (fun b hb' => by simp at hb'; subst hb'; exact own_cells (hown.alloc _)) ⟨W.heap.size, 0, none⟩ 1 1 us hx (by simpa using hl) hnews h1 hfull h63 hbytes ?_
      intro v' w' h2 h3
      obtain ⟨g', c', rfl, h4, h5⟩ := own_form h2 (by omega)
      simp only [World.size_alloc] at h4
      exact h g' c' w' (own_base h2 (by simp; omega)) (((Fr.refl _ _).alloc _).trans ((Fr.of_grown h3).mono (by simp))) (by omega) h5 (.inr (by omega))

/-- A fact on memory, and the blocks of which it speaks. -/
structure Asn where
  fp : List Nat
  p : World → Prop
  st : ∀ w w', p w → (∀ k ∈ fp, w'.heap[k]? = w.heap[k]?) → p w'
  lt : ∀ w, p w → ∀ k ∈ fp, k < w.heap.size
/-- Facts on memory, each of blocks of its own. -/
structure Sep (w : World) (L : List Asn) : Prop where
  all : ∀ A ∈ L, A.p w
  dis : L.Pairwise (fun A B => ∀ k ∈ A.fp, k ∉ B.fp)

section
variable {w w' : World} {L : List Asn}
theorem Sep.nil (w : World) : Sep w [] := ⟨by simp, .nil⟩
/-- Nothing of L's has turned. -/
theorem Sep.keep {S : List Nat} (h : Sep w L) (f : Fr S w w') (hS : ∀ k ∈ S, w.heap.size ≤ k ∨ ∀ A ∈ L, k ∉ A.fp) : Sep w' L :=
  ⟨fun A hA => A.st w w' (h.all A hA) (fun k hk => f.block k (A.lt w (h.all A hA) k hk) (fun hx => (hS k hx).elim (fun h' => by have := A.lt w (h.all A hA) k hk; omega) (fun h' => h' A hA hk))), h.dis⟩
theorem Sep.fr0 (h : Sep w L) (f : Fr [] w w') : Sep w' L := h.keep f (by simp)
/-- One fact's blocks have turned. -/
theorem Sep.upd (h : Sep w L) (i : Nat) {A : Asn} (hi : L[i]? = some A) {S : List Nat} (f : Fr S w w') (hS : ∀ k ∈ S, k ∈ A.fp ∨ w.heap.size ≤ k) (B : Asn) (hB : B.p w') (hfp : ∀ k ∈ B.fp, k ∈ A.fp ∨ w.heap.size ≤ k) : Sep w' (L.set i B) := by
  have hil : i < L.length := (List.getElem?_eq_some_iff.1 hi).1
  have hA : L[i] = A := by rw [List.getElem?_eq_getElem hil] at hi; simpa using hi
  have hd := h.dis
  rw [List.pairwise_iff_getElem] at hd
  have other : ∀ j (hj : j < L.length), j ≠ i → ∀ k ∈ (L[j]).fp, k ∉ A.fp := by
    intro j hj hji k hk hkA
    subst hA
    rcases Nat.lt_or_gt_of_ne hji with h' | h'
    · exact hd j i hj hil h' k hk hkA
    · exact hd i j hil hj h' k hkA hk
  have olt : ∀ j (hj : j < L.length), ∀ k ∈ (L[j]).fp, k < w.heap.size := fun j hj k hk => (L[j]).lt w (h.all _ (List.getElem_mem hj)) k hk
  refine ⟨fun C hC => ?_, ?_⟩
  · obtain ⟨j, hj, rfl⟩ := List.getElem_of_mem hC
    simp only [List.length_set] at hj
    rw [List.getElem_set]
    split
    · exact hB
    · rename_i hne
      refine (L[j]).st w w' (h.all _ (List.getElem_mem hj)) (fun k hk => f.block k (olt j hj k hk) (fun hx => ?_))
      rcases hS k hx with h' | h'
      · exact other j hj (fun h'' => hne h''.symm) k hk h'
      · have := olt j hj k hk; omega
  · rw [List.pairwise_iff_getElem]
    intro a b ha hb hab k hk hk'
    simp only [List.length_set] at ha hb
    rw [List.getElem_set] at hk hk'
    split at hk
    · rename_i hia
      rw [if_neg (by omega)] at hk'
      rcases hfp k hk with h' | h'
      · exact other b hb (by omega) k hk' h'
      · have := olt b hb k hk'; omega
    · split at hk'
      · rcases hfp k hk' with h' | h'
        · exact other a ha (by omega) k hk h'
        · have := olt a ha k hk; omega
      · exact hd a b ha hb hab k hk hk'
/-- A fact on new blocks. -/
theorem Sep.cons (h : Sep w L) (f : Fr [] w w') (B : Asn) (hB : B.p w') (hn : ∀ k ∈ B.fp, w.heap.size ≤ k) : Sep w' (B :: L) := by
  have h' := h.fr0 f
  refine ⟨fun A hA => ?_, List.pairwise_cons.2 ⟨fun A hA k hk hkA => ?_, h'.dis⟩⟩
  · rcases List.mem_cons.1 hA with rfl | hA
    · exact hB
    · exact h'.all A hA
  · have := A.lt w (h.all A hA) k hkA
    have := hn k hk; omega
theorem Sep.tail {A : Asn} (h : Sep w (A :: L)) : Sep w L := ⟨fun B hB => h.all B (List.mem_cons_of_mem _ hB), (List.pairwise_cons.1 h.dis).2⟩
/-- Two facts' blocks are apart. -/
theorem Sep.ne (h : Sep w L) (i j : Nat) {A B : Asn} (hi : L[i]? = some A) (hj : L[j]? = some B) (hij : i ≠ j) {k k' : Nat} (hk : k ∈ A.fp) (hk' : k' ∈ B.fp) : k ≠ k' := by
  rintro rfl
  have hil : i < L.length := (List.getElem?_eq_some_iff.1 hi).1
  have hjl : j < L.length := (List.getElem?_eq_some_iff.1 hj).1
  have hA : L[i] = A := by rw [List.getElem?_eq_getElem hil] at hi; simpa using hi
  have hB : L[j] = B := by rw [List.getElem?_eq_getElem hjl] at hj; simpa using hj
  have hd := h.dis
  rw [List.pairwise_iff_getElem] at hd
  subst hA; subst hB
  rcases Nat.lt_or_gt_of_ne hij with h' | h'
  · exact hd i j hil hjl h' k hk hk'
  · exact hd j i hjl hil h' k hk' hk
end

end Go.Proofs.Ytogjfcmclfehkaa
namespace Go.Proofs.Ytogjfcmclfehkaa
open Go.RowKit

section
variable {P : Program} {ops : Array Oper} {Q : Exit → Act → World → Prop}

/-- A region in whatever order: what holds of what is done. -/
theorem wpAny_inv (J : Array Bool → Act → World → Prop)
    (step : ∀ listed a w i, J listed a w → i ∈ Region.ready .any ops listed → wpOp P ops Q i (J (listed.setIfInBounds i true)) a w)
    (fin : ∀ listed a w, J listed a w → Region.ready .any ops listed = [] → Q .normal a w) :
    ∀ (fuel : Nat) (listed : Array Bool) (a : Act) (w : World), listed.size = ops.size → listed.toList.count false = fuel → J listed a w → wpAny P .any ops Q fuel listed a w := by
  intro fuel
  induction fuel with
  | zero =>
    intro listed a w hs hc hJ
    have hnil : Region.ready .any ops listed = [] := by
      rcases hr : Region.ready .any ops listed with _ | ⟨i, l⟩
      · rfl
      · have hi : i ∈ Region.ready .any ops listed := by rw [hr]; simp
        obtain ⟨h0, o, ho, -⟩ := mem_ready.1 hi
        have hlt : i < listed.size := by rw [hs]; exact (Array.getElem?_eq_some_iff.1 ho).1
        have : false ∈ listed.toList := by
          have e : listed[i] = false := by simpa [hlt] using h0
          rw [← e]; simp
        exact absurd hc (by have := List.count_pos_iff.2 this; omega)
    exact ⟨hnil, fin _ _ _ hJ hnil⟩
  | succ fuel ih =>
    intro listed a w hs hc hJ
    refine ⟨fun h => fin _ _ _ hJ h, fun i hi => ?_⟩
    refine wpOp_mono (fun a' w' hJ' => ih _ _ _ (by simpa using hs) ?_ hJ') (step listed a w i hJ hi)
    obtain ⟨h0, o, ho, -⟩ := mem_ready.1 hi
    have hlt : i < listed.size := by rw [hs]; exact (Array.getElem?_eq_some_iff.1 ho).1
    have e : listed.toList[i]'(by simpa using hlt) = false := by simpa [hlt] using h0
    rw [Array.toList_setIfInBounds, List.count_set (by simpa using hlt)]
    simp [e, hc]

/-- Every edge goes back. -/
def edgesBack (ops : Array Oper) : Bool := (List.range ops.size).all fun i => ((ops[i]?).map (·.after.all fun e => !Region.binds .any e || decide (e.on < i))).getD true

theorem ready_nil (hb : edgesBack ops = true) {listed : Array Bool} (hs : listed.size = ops.size) (h : Region.ready .any ops listed = []) : ∀ i, i < ops.size → listed.getD i false = true := by
  intro i
  induction i using Nat.strongRecOn with
  | _ i ih =>
    intro hi
    cases hl : listed.getD i false with
    | true => rfl
    | false =>
      exfalso
      have : i ∈ Region.ready .any ops listed := by
        rw [mem_ready]
        refine ⟨by simpa [hs, hi] using hl, ops[i], Array.getElem?_eq_getElem hi, fun e he hbd => ?_⟩
        have h1 := List.all_eq_true.1 hb i (by simpa using hi)
        simp only [Array.getElem?_eq_getElem hi, Option.map_some, Option.getD_some, Array.all_eq_true_iff_forall_mem, Bool.or_eq_true, Bool.not_eq_true', decide_eq_true_eq] at h1
        have h2 := (h1 e he).resolve_left (by simp [hbd])
        exact ih e.on h2 (by omega)
      rw [h] at this; cases this

def upd (σ : Nat → Value) (k : Nat) (v : Value) : Nat → Value := fun j => if j = k then v else σ j
theorem upd_map {σ : Nat → Value} {k : Nat} {v : Value} {l : List Nat} (h : k ∉ l) : l.map (upd σ k v) = l.map σ := by
  apply List.map_congr_left
  intro x hx
  unfold upd
  rw [if_neg (by rintro rfl; exact h hx)]

/-- The operations that an operation waits for. -/
def edgesOf (ops : Array Oper) (i : Nat) : List Nat := ((ops[i]?).map fun o => (o.after.toList.filter (Region.binds .any)).map (·.on)).getD []
/-- The slot that an operation writes. -/
def dstOf (ops : Array Oper) (i : Nat) : Option Tmp := (ops[i]?).bind (·.dst)
theorem mem_edges {i : Nat} {o : Oper} (ho : ops[i]? = some o) {k : Nat} : k ∈ edgesOf ops i ↔ ∃ e ∈ o.after, Region.binds .any e = true ∧ e.on = k := by
  simp only [edgesOf, ho, Option.map_some, Option.getD_some, List.mem_map, List.mem_filter, Array.mem_toList_iff]
  constructor
  · rintro ⟨e, ⟨h1, h2⟩, h3⟩; exact ⟨e, h1, h2, h3⟩
  · rintro ⟨e, h1, h2, h3⟩; exact ⟨e, ⟨h1, h2⟩, h3⟩

theorem ready_edges {listed : Array Bool} {i : Nat} (h : i ∈ Region.ready .any ops listed) : i < ops.size ∧ listed.getD i true = false ∧ ∀ k ∈ edgesOf ops i, listed.getD k false = true := by
  obtain ⟨h0, o, ho, ha⟩ := mem_ready.1 h
  refine ⟨(Array.getElem?_eq_some_iff.1 ho).1, h0, fun k hk => ?_⟩
  obtain ⟨e, he, hb, rfl⟩ := (mem_edges ho).1 hk
  exact ha e he hb

theorem getD_not_both {listed : Array Bool} {i : Nat} (h0 : listed.getD i true = false) (h1 : listed.getD i false = true) : False := by
  rcases Nat.lt_or_ge i listed.size with h | h
  · simp [h] at h0 h1; rw [h0] at h1; cases h1
  · simp [Array.getElem?_eq_none h] at h1

/-- The block at which a value points. -/
def vblk : Value → Option Nat
  | .slice (some a) _ _ => some a.block
  | .pointer (some a) => some a.block
  | .map (some r) => some r
  | _ => none
theorem getD_rep (n i : Nat) : (Array.replicate n false).getD i false = false := by
  by_cases h : i < n <;> simp [Array.getD, h]

/-- A frame, of which the marked slots are σ's. -/
def fill (σ : Nat → Value) : List Bool → Nat → List Value → List Value
  | m :: ms, k, v :: r => (if m then σ k else v) :: fill σ ms (k + 1) r
  | _, _, r => r
theorem fill_self (f : Nat → Value) : ∀ (ms : List Bool) (k : Nat) (l : List Value), (∀ j v, l[j]? = some v → f (k + j) = v) → fill f ms k l = l := by
  intro ms
  induction ms with
  | nil => intro k l _; cases l <;> rfl
  | cons m ms ih =>
    intro k l h
    cases l with
    | nil => rfl
    | cons v r =>
      have h0 := h 0 v rfl
      simp only [Nat.add_zero] at h0
      simp only [fill, h0, ite_self]
      rw [ih (k + 1) r (fun j v hj => by have := h (j + 1) v (by simpa using hj); rwa [show k + 1 + j = k + (j + 1) by omega])]
theorem fill_set (σ : Nat → Value) (d : Nat) (u : Value) : ∀ (ms : List Bool) (k : Nat) (l : List Value), (k ≤ d → ms[d - k]? = some true) → (fill σ ms k l).set (d - k) u = (if k ≤ d then fill (upd σ d u) ms k l else (fill σ ms k l).set (d - k) u) := by
  intro ms
  induction ms with
  | nil => intro k l h; split <;> simp_all
  | cons m ms ih =>
    intro k l h
    split
    · rename_i hkd
      cases l with
      | nil => rfl
      | cons v r =>
        by_cases e : d = k
        · subst e
          have hm : m = true := by simpa using h
          subst hm
          simp only [fill, Nat.sub_self, List.set_cons_zero, if_true, upd]
          congr 1
          clear ih h hkd
          -- behind the slot nothing turns
          suffices ∀ (ms : List Bool) (k : Nat) (l : List Value), d < k → fill σ ms k l = fill (fun j => if j = d then u else σ j) ms k l from this _ _ _ (by omega)
          intro ms
          induction ms with
          | nil => intro k l _; cases l <;> rfl
          | cons m ms ih =>
            intro k l hk
            cases l with
            | nil => rfl
            | cons v r => simp only [fill, if_neg (show k ≠ d by omega)]; rw [ih _ _ (by omega)]
        · have h1 := ih (k + 1) r (fun _ => by have := h hkd; rwa [show d - k = (d - (k + 1)) + 1 by omega, List.getElem?_cons_succ] at this)
          rw [if_pos (by omega)] at h1
          rw [show d - k = (d - (k + 1)) + 1 by omega]
          simp only [fill, List.set_cons_succ, h1]
          congr 1
          unfold upd
          by_cases hm : m = true
          · rw [if_pos hm, if_pos hm, if_neg (fun h' => e h'.symm)]
          · rw [if_neg hm, if_neg hm]
    · rfl

theorem step_put {o : Oper} {a : Act} {w : World} {X : Act → World → Prop} (hX : ∀ a'' w'', X a'' w'' → a''.defers = a.defers)
    (h : wpList P ops (fun e a'' w'' => e = .normal ∧ X a'' w'') [o] a w) {K : Act → World → Prop} (hK : ∀ v w'', X (a.put o.dst v) w'' → K (a.put o.dst v) w'') :
    if Region.wanted o (yielded ops a.tmps) then o.wp P a w K Q ∨ (o.asks P a w ∧ LetsOut Q) else K (a.put o.dst undef) w := by
  simp only [wpList] at h
  split
  · rename_i hw
    rw [if_pos hw] at h
    rcases h with h | ⟨-, a0, w0, h0, -⟩
    · refine .inl ?_
      unfold Oper.wp at *
      generalize (execOp a.eval o).run P w = r at *
      cases r with
      | ok n w' =>
        cases n with
        | value v => exact hK _ _ h.2
        | skip => exact hK _ _ h.2
        | defer dd =>
          exfalso
          have := hX _ _ h.2
          cases hdd : o.dst <;> simp [hdd, Act.put] at this
        | enter f args =>
          refine Calls.mono h fun e w'' he => ?_
          cases e with
          | returned u => exact hK _ _ he.2
          | panicked c => exact absurd he.1 (by simp)
          | outgrown => obtain ⟨a0, w0, h0, -⟩ := he; cases h0
        | row row args => exact Rows.mono h fun v w'' he => hK _ _ he.2
        | _ => exact h.elim
      | halt x w' =>
        cases x with
        | panic v => exact absurd h.1 (by simp)
        | _ => exact h.elim
    · cases h0
  · rename_i hw
    rw [if_neg hw] at h
    exact hK _ _ h.2

end
end Go.Proofs.Ytogjfcmclfehkaa
namespace Go.Proofs.Ytogjfcmclfehkaa
open Go.RowKit

section
variable {P : Program} {ops : Array Oper} {Q : Exit → Act → World → Prop}

/-- A write, if there is a slot. -/
def updo (σ : Nat → Value) (k : Option Nat) (v : Value) : Nat → Value := match k with | some k => upd σ k v | none => σ
theorem updo_map {σ : Nat → Value} {k : Option Nat} {v : Value} {l : List Nat} (h : ∀ x, k = some x → x ∉ l) : l.map (updo σ k v) = l.map σ := by
  cases k with
  | none => rfl
  | some x => exact upd_map (h x rfl)

/-- How many loud operations stand before one. -/
def rankOf (loud : Nat → Bool) (i : Nat) : Nat := ((List.range i).filter loud).length
def phasesOk (ops : Array Oper) (sup : Nat → List Nat) (loud : Nat → Bool) (supH : Nat → List Nat) : Bool :=
  ((List.range ops.size).all fun j => (List.range ops.size).all fun i => i == j || (edgesOf ops j).contains i || (sup j).all (fun k => dstOf ops i != some k)) &&
  ((List.range ops.size).all fun c => !loud c || (List.range c).all fun j => !(loud j && rankOf loud j + 1 == rankOf loud c) || (edgesOf ops c).contains j) &&
  ((List.range ops.size).all fun c => !loud c || (List.range ops.size).all fun i => i == c || (edgesOf ops c).contains i || (supH (rankOf loud c + 1)).all (fun k => dstOf ops i != some k)) &&
  ((List.range ops.size).all fun i => (supH 0).all (fun k => dstOf ops i != some k)) &&
  ((List.range ops.size).all fun i => (List.range ops.size).all fun j => i == j || dstOf ops i == none || dstOf ops i != dstOf ops j)

theorem rank_succ (loud : Nat → Bool) (i : Nat) : rankOf loud (i + 1) = rankOf loud i + (if loud i then 1 else 0) := by
  unfold rankOf
  rw [List.range_succ, List.filter_append]
  by_cases h : loud i <;> simp [h]
theorem rank_le {loud : Nat → Bool} {i j : Nat} (h : i ≤ j) : rankOf loud i ≤ rankOf loud j := by
  induction j with
  | zero => obtain rfl : i = 0 := by omega
            exact Nat.le_refl _
  | succ j ih =>
    rcases Nat.lt_or_ge j i with h' | h'
    · obtain rfl : i = j + 1 := by omega
      exact Nat.le_refl _
    · have := ih h'; rw [rank_succ]; omega
theorem rank_lt {loud : Nat → Bool} {i j : Nat} (h : i < j) (hi : loud i = true) : rankOf loud i < rankOf loud j := by
  have h1 := rank_succ loud i
  rw [if_pos hi] at h1
  have h2 := rank_le (loud := loud) (show i + 1 ≤ j from h)
  omega
/-- Each rank below a loud one's is another loud one's. -/
theorem rank_has {loud : Nat → Bool} : ∀ (j k : Nat), k < rankOf loud j → ∃ i, i < j ∧ loud i = true ∧ rankOf loud i = k := by
  intro j
  induction j with
  | zero => intro k h; simp [rankOf] at h
  | succ j ih =>
    intro k h
    rw [rank_succ] at h
    rcases Nat.lt_or_ge k (rankOf loud j) with h' | h'
    · obtain ⟨i, h1, h2, h3⟩ := ih k h'
      exact ⟨i, by omega, h2, h3⟩
    · by_cases hl : loud j = true
      · rw [if_pos hl] at h; exact ⟨j, by omega, hl, by omega⟩
      · rw [if_neg hl] at h; omega

/-- A REGION THAT DRAWS ITS ORDER, by facts and phases. The loud operations come in their order, each with the phase's fact, and leaves the next one's; each other one leaves the phase's fact as it is (R1). -/
theorem wp_region_phases {id : Nat} (hm : P.follows .mixedOrders = true) (hb : edgesBack ops = true) (sup : Nat → List Nat) (loud : Nat → Bool) (supH : Nat → List Nat) (hok : phasesOk ops sup loud supH = true) (nw : Nat → Bool)
    (R R1 : World → World → Prop) (G : Nat → List Value → World → Prop) (H : Nat → List Value → World → Prop) (tmpl : (Nat → Value) → Array Value) (d : List Deferred)
    (hR : ∀ a b c, R a b → R b c → R a c) (_hR1 : ∀ a b, R1 a b → R a b) (hG : ∀ i l w w', R w w' → G i l w → G i l w') (hH : ∀ k l w w', R1 w w' → H k l w → H k l w')
    (hRs : ∀ a b, R a b → a.heap.size ≤ b.heap.size)
    (σ : Nat → Value) (w : World) (hRd : R w.drew w.drew) (hH0 : H 0 ((supH 0).map σ) w.drew)
    (step : ∀ i σ w', i < ops.size → R w.drew w' → (∀ j ∈ edgesOf ops i, G j ((sup j).map σ) w') → (loud i = true → H (rankOf loud i) ((supH (rankOf loud i)).map σ) w') →
      wpOp P ops Q i (fun a'' w'' => ∃ v, a'' = { tmps := tmpl (updo σ (dstOf ops i) v), defers := d } ∧ R w' w'' ∧ G i ((sup i).map (updo σ (dstOf ops i) v)) w'' ∧
        (loud i = true → H (rankOf loud i + 1) ((supH (rankOf loud i + 1)).map (updo σ (dstOf ops i) v)) w'') ∧ (loud i = false → R1 w' w'') ∧
        (nw i = true → ∃ b, vblk v = some b ∧ w'.heap.size ≤ b ∧ b < w''.heap.size)) { tmps := tmpl σ, defers := d } w')
    (fin : ∀ σ w', R w.drew w' → (∀ j, j < ops.size → G j ((sup j).map σ) w') → H (rankOf loud ops.size) ((supH (rankOf loud ops.size)).map σ) w' →
      (∀ i j x y, i < ops.size → j < ops.size → i ≠ j → nw i = true → nw j = true → dstOf ops i = some x → dstOf ops j = some y → vblk (σ x) ≠ vblk (σ y)) → Q .normal { tmps := tmpl σ, defers := d } w') :
    (Code.region id ops true).wp P Q { tmps := tmpl σ, defers := d } w := by
  simp only [phasesOk, Bool.and_eq_true, List.all_eq_true, List.mem_range, Bool.or_eq_true, beq_iff_eq, bne_iff_ne, List.contains_iff_mem, Bool.not_eq_true', Bool.and_eq_false_iff, beq_eq_false_iff_ne] at hok
  obtain ⟨⟨⟨⟨hok1, hok2⟩, hok3⟩, hok4⟩, hap⟩ := hok
  refine wp_region_any hm ?_
  change wpAny _ _ _ _ _ _ _ w.drew
  let J : Array Bool → Act → World → Prop := fun listed a w' => listed.size = ops.size ∧ (∀ j, listed.getD j false = true → ∀ k ∈ edgesOf ops j, listed.getD k false = true) ∧
      ∃ σ k, a = { tmps := tmpl σ, defers := d } ∧ R w.drew w' ∧ (∀ j, j < ops.size → listed.getD j false = true → G j ((sup j).map σ) w') ∧
        (∀ j, j < ops.size → loud j = true → (listed.getD j false = true ↔ rankOf loud j < k)) ∧ k ≤ rankOf loud ops.size ∧ H k ((supH k).map σ) w' ∧
        (∀ j x, j < ops.size → listed.getD j false = true → nw j = true → dstOf ops j = some x → ∃ b, vblk (σ x) = some b ∧ b < w'.heap.size) ∧
        (∀ i j x y, i < ops.size → j < ops.size → i ≠ j → listed.getD i false = true → listed.getD j false = true → nw i = true → nw j = true → dstOf ops i = some x → dstOf ops j = some y → vblk (σ x) ≠ vblk (σ y))
  refine wpAny_inv J ?_ ?_ _ _ _ _ (by simp) (by simp) ⟨by simp, fun j hj => (by rw [getD_rep] at hj; cases hj), σ, 0, rfl, hRd, fun j _ hj => (by rw [getD_rep] at hj; cases hj), fun j _ _ => by rw [getD_rep]; simp, Nat.zero_le _, hH0, fun j _ _ hj => (by rw [getD_rep] at hj; cases hj), fun i j _ _ _ _ _ hj => (by rw [getD_rep] at hj; cases hj)⟩
  · intro listed a w' i hJ hi
    obtain ⟨hlt, hun, hed⟩ := ready_edges hi
    obtain ⟨hs, hcl, σ, k, rfl, hRw, hf, hk, hkm, hHk, hbl, hne⟩ := hJ
    -- a loud one's rank is the phase
    have hrank : loud i = true → rankOf loud i = k := by
      intro hl
      have h1 : k ≤ rankOf loud i := by
        rcases Nat.lt_or_ge (rankOf loud i) k with h | h
        · exact absurd ((hk i hlt hl).2 h) (fun h' => getD_not_both hun h')
        · exact h
      rcases Nat.lt_or_ge k (rankOf loud i) with h | h
      · exfalso
        obtain ⟨c, hc, hcl', hcr⟩ := rank_has (loud := loud) i (rankOf loud i - 1) (by omega)
        rcases (hok2 i hlt).resolve_left (by simp [hl]) c hc with (h2 | h2) | h2
        · rw [hcl'] at h2; cases h2
        · omega
        · have := (hk c (by omega) hcl').1 (hed c h2); omega
      · omega
    refine wpOp_mono ?_ (step i σ w' hlt hRw (fun j hj => hf j (by
      have h := hed j hj
      rcases Nat.lt_or_ge j listed.size with h' | h'
      · exact hs ▸ h'
      · simp [Array.getElem?_eq_none h'] at h) (hed j hj)) (fun hl => by rw [hrank hl]; exact hHk))
    rintro a'' w'' ⟨v, rfl, hR', hg, hHn, hHs, hnew⟩
    have hsz := hRs _ _ hR'
    have hsame : ∀ j x, j < ops.size → j ≠ i → dstOf ops j = some x → updo σ (dstOf ops i) v x = σ x := by
      intro j x hj hji hx
      cases hd : dstOf ops i with
      | none => rfl
      | some y =>
        simp only [updo, upd]
        rw [if_neg]
        rintro rfl
        rcases hap j hj i hlt with (h | h) | h
        · exact hji h
        · rw [h] at hx; cases hx
        · exact h (hx.trans hd.symm)
    have hnotH : ∀ c, c < ops.size → loud c = true → listed.getD c false = true → ∀ x, dstOf ops i = some x → x ∉ supH (rankOf loud c + 1) := by
      intro c hc hl hlc x hx hmem
      rcases (hok3 c hc).resolve_left (by simp [hl]) i hlt with (h | h) | h
      · subst h; exact getD_not_both hun hlc
      · exact getD_not_both hun (hcl c hlc i h)
      · exact h x hmem hx
    refine ⟨by simpa using hs, ?_, updo σ (dstOf ops i) v, if loud i then k + 1 else k, rfl, hR _ _ _ hRw hR', ?_, ?_, ?_, ?_, ?_, ?_⟩
    · intro j hj e he
      by_cases hji : i = j
      · subst hji; exact getD_set_true (hed e he)
      · rw [getD_set_ne false hji] at hj
        exact getD_set_true (hcl j hj e he)
    · intro j hjm hj
      by_cases hji : i = j
      · subst hji; exact hg
      · rw [getD_set_ne false hji] at hj
        have hnot : ∀ x, dstOf ops i = some x → x ∉ sup j := by
          intro x hx hmem
          rcases hok1 j hjm i hlt with (h1 | h1) | h1
          · exact hji h1
          · exact getD_not_both hun (hcl j hj i h1)
          · exact h1 x hmem hx
        rw [updo_map hnot]
        exact hG j _ _ _ hR' (hf j hjm hj)
    · intro j hj hl
      by_cases hji : i = j
      · subst hji
        rw [if_pos hl, hrank hl]
        simp [hs, hlt]
      · rw [getD_set_ne false hji, hk j hj hl]
        split
        · rename_i hli
          have h1 := hrank hli
          constructor
          · intro h; omega
          · intro h
            rcases Nat.lt_or_ge (rankOf loud j) k with h2 | h2
            · exact h2
            · exfalso
              have h3 : rankOf loud j = rankOf loud i := by omega
              rcases Nat.lt_or_gt_of_ne hji with h4 | h4
              · have := rank_lt h4 hli; omega
              · have := rank_lt h4 hl; omega
        · exact Iff.rfl
    · split
      · rename_i hl
        have h1 := hrank hl
        have := rank_lt (loud := loud) hlt hl
        omega
      · exact hkm
    · split
      · rename_i hl
        rw [← hrank hl]; exact hHn hl
      · rename_i hl
        have hl : loud i = false := by simpa using hl
        have hnot : ∀ x, dstOf ops i = some x → x ∉ supH k := by
          intro x hx
          rcases Nat.eq_zero_or_pos k with h0 | hp
          · subst h0
            intro hmem; exact hok4 i hlt x hmem hx
          · -- the loud one before
            have hex : ∃ c, c < ops.size ∧ loud c = true ∧ rankOf loud c = k - 1 := by
              obtain ⟨c, h1, h2, h3⟩ := rank_has (loud := loud) ops.size (k - 1) (by omega)
              exact ⟨c, h1, h2, h3⟩
            obtain ⟨c, h1, h2, h3⟩ := hex
            have := hnotH c h1 h2 ((hk c h1 h2).2 (by omega)) x hx
            rwa [show rankOf loud c + 1 = k by omega] at this
        rw [updo_map hnot]
        exact hH k _ _ _ (hHs hl) hHk
    · intro j x hjm hj hnj hx
      by_cases hji : i = j
      · subst hji
        obtain ⟨b, h1, h2, h3⟩ := hnew hnj
        exact ⟨b, by simpa [hx, updo, upd] using h1, h3⟩
      · rw [getD_set_ne false hji] at hj
        rw [hsame j x hjm (Ne.symm hji) hx]
        obtain ⟨b, h1, h2⟩ := hbl j x hjm hj hnj hx
        exact ⟨b, h1, by omega⟩
    · intro j l x y hjm hlm hjl hj hl hnj hnl hx hy
      by_cases hji : i = j
      · subst hji
        rw [getD_set_ne false hjl] at hl
        rw [hsame l y hlm (Ne.symm hjl) hy]
        obtain ⟨b, h1, h2⟩ := hbl l y hlm hl hnl hy
        obtain ⟨b', h1', h2', -⟩ := hnew hnj
        simp only [hx, updo, upd, if_true, h1, h1']
        intro h; simp at h; omega
      · by_cases hli : i = l
        · subst hli
          rw [getD_set_ne false hji] at hj
          rw [hsame j x hjm (Ne.symm hji) hx]
          obtain ⟨b, h1, h2⟩ := hbl j x hjm hj hnj hx
          obtain ⟨b', h1', h2', -⟩ := hnew hnl
          simp only [hy, updo, upd, if_true, h1, h1']
          intro h; simp at h; omega
        · rw [getD_set_ne false hji] at hj
          rw [getD_set_ne false hli] at hl
          rw [hsame j x hjm (Ne.symm hji) hx, hsame l y hlm (Ne.symm hli) hy]
          exact hne j l x y hjm hlm hjl hj hl hnj hnl hx hy
  · intro listed a w' hJ hnil
    obtain ⟨hs, hcl, σ, k, rfl, hRw, hf, hk, hkm, hHk, hbl, hne⟩ := hJ
    have hall := ready_nil hb hs hnil
    have hkk : k = rankOf loud ops.size := by
      rcases Nat.lt_or_ge k (rankOf loud ops.size) with h | h
      · exfalso
        obtain ⟨c, h1, h2, h3⟩ := rank_has (loud := loud) ops.size k h
        have := (hk c h1 h2).1 (hall c h1); omega
      · omega
    subst hkk
    exact fin σ w' hRw (fun j hj => hf j hj (hall j hj)) hHk (fun i j x y hi hj hij hni hnj => hne i j x y hi hj hij (hall i hi) (hall j hj) hni hnj)

/-- The frame of a phase's step, and what it owes. -/
structure PhCtx where
  R : World → World → Prop
  R1 : World → World → Prop
  G : Nat → List Value → World → Prop
  H : Nat → List Value → World → Prop
  sup : Nat → List Nat
  supH : Nat → List Nat
  loud : Nat → Bool
  nw : Nat → Bool

def PhStep (P : Program) (ops : Array Oper) (c : PhCtx) (ms : List Bool) (L : List Value) (d : List Deferred) (w : World) (i k : Nat) (o : Oper) : Prop :=
  ∀ (σ : Nat → Value) (w' : World), c.R w w' → (∀ j ∈ edgesOf ops i, c.G j ((c.sup j).map σ) w') → (c.loud i = true → c.H k ((c.supH k).map σ) w') →
    wpList P ops (fun e a'' w'' => e = .normal ∧ a''.defers = d ∧ c.R w' w'' ∧ c.G i ((c.sup i).map fun k => a''.tmps.getD k undef) w'' ∧
      (c.loud i = true → c.H (k + 1) ((c.supH (k + 1)).map fun k => a''.tmps.getD k undef) w'') ∧ (c.loud i = false → c.R1 w' w'') ∧
      (c.nw i = true → ∃ b, vblk (o.dst.elim undef (fun k => a''.tmps.getD k undef)) = some b ∧ w'.heap.size ≤ b ∧ b < w''.heap.size)) [o] { tmps := (fill σ ms 0 L).toArray, defers := d } w'
def PhSteps (P : Program) (ops : Array Oper) (c : PhCtx) (ms : List Bool) (L : List Value) (d : List Deferred) (w : World) : List Oper → Nat → Nat → Prop
  | [], _, _ => True
  | o :: r, i, k => PhStep P ops c ms L d w i k o ∧ PhSteps P ops c ms L d w r (i + 1) (if c.loud i then k + 1 else k)

theorem phSteps_get {c : PhCtx} {ms : List Bool} {L : List Value} {d : List Deferred} {w : World} :
    ∀ (l : List Oper) (i : Nat), PhSteps P ops c ms L d w l i (rankOf c.loud i) → ∀ j o, l[j]? = some o → PhStep P ops c ms L d w (i + j) (rankOf c.loud (i + j)) o := by
  intro l
  induction l with
  | nil => intro i _ j o h; simp at h
  | cons x l ih =>
    intro i h j o hj
    cases j with
    | zero => simp at hj; subst hj; exact h.1
    | succ j =>
      have e : (if c.loud i then rankOf c.loud i + 1 else rankOf c.loud i) = rankOf c.loud (i + 1) := by rw [rank_succ]; split <;> rfl
      have h2 := h.2
      rw [e] at h2
      have := ih (i + 1) h2 j o (by simpa using hj)
      rwa [show i + 1 + j = i + (j + 1) by omega] at this

def marks2Ok (ops : Array Oper) (ms : List Bool) (n : Nat) : Bool :=
  decide (ms.length = n) && (List.range ops.size).all fun i => ((dstOf ops i).map fun k => (ms[k]?).getD false).getD true

theorem wp_region_psteps {id : Nat} {l : List Oper} (c : PhCtx) (ms : List Bool) (hm : P.follows .mixedOrders = true) (L : List Value)
    (hb : edgesBack l.toArray = true) (hok : phasesOk l.toArray c.sup c.loud c.supH = true) (hms : marks2Ok l.toArray ms L.length = true)
    (hsup : (((List.range l.length).all fun i => (c.sup i).all fun k => decide (k < L.length) && (ms[k]?).getD false) &&
      (List.range (l.length + 1)).all fun i => (c.supH i).all fun k => decide (k < L.length) && (ms[k]?).getD false) = true)
    (d : List Deferred)
    (hR : ∀ a b e, c.R a b → c.R b e → c.R a e) (hR1 : ∀ a b, c.R1 a b → c.R a b) (hG : ∀ i l w w', c.R w w' → c.G i l w → c.G i l w') (hH : ∀ k l w w', c.R1 w w' → c.H k l w → c.H k l w')
    (hRs : ∀ a b, c.R a b → a.heap.size ≤ b.heap.size) (w : World) (hRd : c.R w.drew w.drew) (hH0 : c.H 0 ((c.supH 0).map fun k => L.getD k undef) w.drew)
    (steps : PhSteps P l.toArray c ms L d w.drew l 0 0)
    (fin : ∀ σ w', c.R w.drew w' → (∀ j, j < l.length → c.G j ((c.sup j).map σ) w') → c.H (rankOf c.loud l.length) ((c.supH (rankOf c.loud l.length)).map σ) w' →
      (∀ i j x y, i < l.length → j < l.length → i ≠ j → c.nw i = true → c.nw j = true → dstOf l.toArray i = some x → dstOf l.toArray j = some y → vblk (σ x) ≠ vblk (σ y)) → Q .normal { tmps := (fill σ ms 0 L).toArray, defers := d } w') :
    (Code.region id l.toArray true).wp P Q { tmps := L.toArray, defers := d } w := by
  have e : L = fill (fun k => L.getD k undef) ms 0 L := (fill_self _ _ _ _ (fun j v h => by simp [List.getD, h])).symm
  simp only [marks2Ok, Bool.and_eq_true, decide_eq_true_eq, List.all_eq_true, List.mem_range] at hms
  obtain ⟨hlen, hmk⟩ := hms
  simp only [Bool.and_eq_true, List.all_eq_true, List.mem_range, decide_eq_true_eq] at hsup
  obtain ⟨hsup, hsupH⟩ := hsup
  have fget : ∀ (σ : Nat → Value) (ms : List Bool) (k : Nat) (l : List Value) (j : Nat), j < l.length → ms[j]? = some true → (fill σ ms k l)[j]? = some (σ (k + j)) := by
    intro σ ms
    induction ms with
    | nil => intro k l j _ h; simp at h
    | cons m ms ih => intro k l j hj h; cases l with
      | nil => simp at hj
      | cons v r =>
        cases j with
        | zero => simp at h; subst h; simp [fill]
        | succ j => simp only [fill, List.getElem?_cons_succ]; rw [ih (k + 1) r j (by simpa using hj) (by simpa using h)]; congr 2; omega
  rw [show ({ tmps := L.toArray, defers := d } : Act) = { tmps := (fill (fun k => L.getD k undef) ms 0 L).toArray, defers := d } by rw [← e]]
  refine wp_region_phases (tmpl := fun σ => (fill σ ms 0 L).toArray) hm hb c.sup c.loud c.supH hok c.nw c.R c.R1 c.G c.H d hR hR1 hG hH hRs _ w hRd hH0 ?_ (by simpa using fin)
  intro i σ w' hil hRw hdeps hHi
  simp only [List.size_toArray] at hil
  have hget : l[i]? = some l[i] := List.getElem?_eq_getElem hil
  have hst := phSteps_get l 0 steps i l[i] hget
  rw [Nat.zero_add] at hst
  have hst := hst σ w' hRw hdeps hHi
  unfold wpOp
  have hga : l.toArray[i]? = some l[i] := by simp
  rw [hga]
  have hdo : dstOf l.toArray i = (l[i]).dst := by unfold dstOf; rw [hga]; rfl
  rw [hdo]
  -- the slots that a fact speaks of are read off the frame
  have hread : ∀ (σ' : Nat → Value) (s : List Nat), (∀ x ∈ s, x < L.length ∧ (ms[x]?).getD false = true) → s.map (fun k => ((fill σ' ms 0 L).toArray).getD k undef) = s.map σ' := by
    intro σ' s hx
    apply List.map_congr_left
    intro k hk
    obtain ⟨h1, h2⟩ := hx k hk
    have h3 : ms[k]? = some true := by
      cases hh : ms[k]? with
      | none => simp [hh] at h2
      | some b => simp [hh] at h2; rw [h2]
    have h4 := fget σ' ms 0 L k h1 h3
    simp only [Nat.zero_add] at h4
    simp [h4]
  have hput : ∀ v, ({ tmps := (fill σ ms 0 L).toArray, defers := d } : Act).put (l[i]).dst v = { tmps := (fill (updo σ (l[i]).dst v) ms 0 L).toArray, defers := d } := by
    intro v
    have hmki := hmk i (by simpa using hil)
    rw [hdo] at hmki
    cases hd : (l[i]).dst with
    | none => rfl
    | some dst =>
      rw [hd] at hmki
      simp only [Option.map_some, Option.getD_some] at hmki
      have hmark : ms[dst]? = some true := by
        cases hh : ms[dst]? with
        | none => simp [hh] at hmki
        | some b => simp [hh] at hmki; rw [hmki]
      have h1 := fill_set σ dst v ms 0 L (fun _ => by simpa using hmark)
      simp only [Nat.zero_le, if_true, Nat.sub_zero] at h1
      simp [Act.put, updo, ← h1]
  refine step_put (X := fun a'' w'' => a''.defers = d ∧ c.R w' w'' ∧ c.G i ((c.sup i).map fun k => a''.tmps.getD k undef) w'' ∧
      (c.loud i = true → c.H (rankOf c.loud i + 1) ((c.supH (rankOf c.loud i + 1)).map fun k => a''.tmps.getD k undef) w'') ∧ (c.loud i = false → c.R1 w' w'') ∧
      (c.nw i = true → ∃ b, vblk ((l[i]).dst.elim undef (fun k => a''.tmps.getD k undef)) = some b ∧ w'.heap.size ≤ b ∧ b < w''.heap.size)) (fun a'' w'' hx => hx.1) hst ?_
  intro v w'' hx
  rw [hput] at hx ⊢
  obtain ⟨-, hx1, hx2, hx3, hx4, hx5⟩ := hx
  refine ⟨v, rfl, hx1, ?_, ?_, hx4, ?_⟩
  · rw [hread _ _ (fun x hx => hsup i hil x hx)] at hx2; exact hx2
  · intro hl
    have h1 := hx3 hl
    have hr : rankOf c.loud i + 1 < l.length + 1 := by
      have : rankOf c.loud i ≤ i := by unfold rankOf; exact Nat.le_trans (List.length_filter_le _ _) (by simp)
      omega
    rw [hread _ _ (fun x hx => hsupH _ hr x hx)] at h1; exact h1
  · intro hn
    obtain ⟨b, h1, h2⟩ := hx5 hn
    have hmki := hmk i (by simpa using hil)
    rw [hdo] at hmki
    cases hd : (l[i]).dst with
    | none => rw [hd] at h1; simp [vblk, undef] at h1
    | some dst =>
      rw [hd] at h1 hmki
      simp only [Option.map_some, Option.getD_some] at hmki
      have hmark : ms[dst]? = some true := by
        cases hh : ms[dst]? with
        | none => simp [hh] at hmki
        | some b => simp [hh] at hmki; rw [hmki]
      have hdl : dst < L.length := Nat.lt_of_lt_of_eq (List.getElem?_eq_some_iff.1 hmark).1 hlen
      have h4 := fget (upd σ dst v) ms 0 L dst hdl hmark
      have h6 : upd σ dst v dst = v := by simp [upd]
      rw [Nat.zero_add, h6] at h4
      refine ⟨b, ?_, h2⟩
      simpa [updo, h4] using h1
end
end Go.Proofs.Ytogjfcmclfehkaa
namespace Go.Proofs.Ytogjfcmclfehkaa
open Go.RowKit

theorem Fr.cell {S : List Nat} {w w' : World} (h : Fr S w w') {a : Addr} {v : Value} (hc : w.cell? a = some v) (hS : a.block ∉ S) : w'.cell? a = some v :=
  (World.cell?_of_block (h.block _ (World.block_lt_of_cell? w a hc) hS)).trans hc

/-- w' is w, but for new blocks, draws, the blocks in S, and what lies in those blocks from N on that are of type T. -/
structure FrT (N : Nat) (S : List Nat) (T : TypeId) (w w' : World) : Prop where
  os : w'.os = w.os
  tape : w'.tape = w.tape
  output : w'.output = w.output
  size : w.heap.size ≤ w'.heap.size
  block : ∀ k, k < w.heap.size → k ∉ S → w'.heap[k]? = w.heap[k]? ∨ (N ≤ k ∧ ∃ c c' : List Value, c.length = c'.length ∧ Blk w k T c ∧ Blk w' k T c')

section
variable {N : Nat} {S : List Nat} {T : TypeId} {w w' : World}
theorem FrT.of (h : Fr S w w') : FrT N S T w w' := ⟨h.os, h.tape, h.output, h.size, fun k hk hs => .inl (h.block k hk hs)⟩
theorem FrT.trans {w'' : World} (h : FrT N S T w w') (h' : FrT N S T w' w'') : FrT N S T w w'' := by
  refine ⟨h'.os.trans h.os, h'.tape.trans h.tape, h'.output.trans h.output, Nat.le_trans h.size h'.size, fun k hk hs => ?_⟩
  rcases h.block k hk hs with h1 | ⟨hn, c, c', hl, h1, h2⟩ <;> rcases h'.block k (Nat.lt_of_lt_of_le hk h.size) hs with h3 | ⟨hn', e, e', hl', h3, h4⟩
  · exact .inl (h3.trans h1)
  · exact .inr ⟨hn', e, e', hl', by unfold Blk at *; rw [← h1]; exact h3, h4⟩
  · exact .inr ⟨hn, c, c', hl, h1, by unfold Blk at *; rw [h3]; exact h2⟩
  · refine .inr ⟨hn, c, e', ?_, h1, h4⟩
    unfold Blk at h2 h3
    rw [h2] at h3
    simp at h3
    subst h3
    omega
theorem FrT.fr (h : FrT N S T w w') (hN : w.heap.size ≤ N) : Fr S w w' :=
  ⟨h.os, h.tape, h.output, h.size, fun k hk hs => (h.block k hk hs).elim id (fun h' => by omega)⟩
theorem FrT.set {b : Nat} {c c' : List Value} (h : Fr [b] w w') (hb : N ≤ b) (hc : Blk w b T c) (hc' : Blk w' b T c') (hl : c.length = c'.length) : FrT N S T w w' :=
  ⟨h.os, h.tape, h.output, h.size, fun k hk _ => by
    by_cases e : k = b
    · subst e; exact .inr ⟨hb, c, c', hl, hc, hc'⟩
    · exact .inl (h.block k hk (by simpa using e))⟩
theorem Blk.frT {b T' : Nat} {c : List Value} (h : Blk w b T' c) (hf : FrT N S T w w') (hb : b ∉ S) (hT : b < N ∨ T' ≠ T) : Blk w' b T' c := by
  rcases hf.block b h.lt hb with h1 | ⟨hn, e, e', -, h1, -⟩
  · unfold Blk; rw [h1]; exact h
  · exfalso
    rcases hT with h' | h'
    · omega
    · unfold Blk at h h1; rw [h] at h1; simp at h1; exact h' h1.2
/-- A block of so many cells. -/
def BlkN (w : World) (b : Nat) (T : TypeId) (n : Nat) : Prop := ∃ c : List Value, c.length = n ∧ Blk w b T c
theorem BlkN.frT {b n : Nat} (h : BlkN w b T n) (hf : FrT N S T w w') (hb : b ∉ S) : BlkN w' b T n := by
  obtain ⟨c, hl, h⟩ := h
  rcases hf.block b h.lt hb with h1 | ⟨hn, e, e', hl', h1, h2⟩
  · exact ⟨c, hl, by unfold Blk; rw [h1]; exact h⟩
  · unfold Blk at h h1; rw [h] at h1; simp at h1
    subst h1
    exact ⟨e', by omega, h2⟩
theorem FrT.cell (h : FrT N S T w w') {a : Addr} {v : Value} (hc : w.cell? a = some v) (hS : a.block ∉ S) (hN : a.block < N) : w'.cell? a = some v := by
  rcases h.block _ (World.block_lt_of_cell? w a hc) hS with h1 | ⟨h1, -⟩
  · exact (World.cell?_of_block h1).trans hc
  · omega
end
end Go.Proofs.Ytogjfcmclfehkaa
namespace Go.Proofs.Ytogjfcmclfehkaa
open Go.RowKit

/-- Facts that a frame keeps. -/
def Sta (R : World → World → Prop) (gs : List (Value → World → Prop)) : Prop := ∀ g ∈ gs, ∀ v w w', R w w' → g v w → g v w'
theorem sta0 {R : World → World → Prop} : Sta R [] := by simp [Sta]
theorem sta {R : World → World → Prop} {g : Value → World → Prop} {gs : List (Value → World → Prop)} (h : ∀ v w w', R w w' → g v w → g v w') (hs : Sta R gs) : Sta R (g :: gs) := by
  intro x hx
  rcases List.mem_cons.1 hx with rfl | hx
  · exact h
  · exact hs x hx
/-- A slot's value. -/
def Is (x : Value) : Value → World → Prop := fun v _ => v = x
/-- Nothing is said. -/
def No : Value → World → Prop := fun _ _ => True
theorem staI {R : World → World → Prop} {x : Value} {gs : List (Value → World → Prop)} (hs : Sta R gs) : Sta R (Is x :: gs) := sta (fun _ _ _ _ h => h) hs
theorem staN {R : World → World → Prop} {gs : List (Value → World → Prop)} (hs : Sta R gs) : Sta R (No :: gs) := sta (fun _ _ _ _ h => h) hs
def StH (R : World → World → Prop) (hs : List (List Value → World → Prop)) : Prop := ∀ g ∈ hs, ∀ v w w', R w w' → g v w → g v w'
theorem sth0 {R : World → World → Prop} : StH R [] := by simp [StH]
theorem sth {R : World → World → Prop} {g : List Value → World → Prop} {gs : List (List Value → World → Prop)} (h : ∀ v w w', R w w' → g v w → g v w') (hs : StH R gs) : StH R (g :: gs) := by
  intro x hx
  rcases List.mem_cons.1 hx with rfl | hx
  · exact h
  · exact hs x hx

/-- A region's frame and facts. -/
structure Rc where
  R : World → World → Prop
  R1 : World → World → Prop
  gs : List (Value → World → Prop)
  ds : List (Option Nat)
  fl : List Bool
  hs : List (List Value → World → Prop)
  hd : List (List Nat)
def Rc.sup (c : Rc) (i : Nat) : List Nat := (c.ds.getD i none).toList
def Rc.G (c : Rc) (i : Nat) (l : List Value) (w : World) : Prop := (c.gs.getD i No) (l.headD undef) w
def Rc.H (c : Rc) (k : Nat) (l : List Value) (w : World) : Prop := (c.hs.getD k fun _ _ => True) l w
def Rc.loud (c : Rc) (i : Nat) : Bool := c.fl.getD i false
def Rc.ph (c : Rc) : PhCtx := { R := c.R, R1 := c.R1, G := c.G, H := c.H, sup := c.sup, supH := fun k => c.hd.getD k [], loud := c.loud, nw := fun _ => false }

section
variable {P : Program} {ops : Array Oper} {Q : Exit → Act → World → Prop}
theorem wpList_mono1 {o : Oper} {a : Act} {w : World} {Q Q' : Exit → Act → World → Prop} (hq : ∀ e a w, Q e a w → Q' e a w) (h : wpList P ops Q [o] a w) : wpList P ops Q' [o] a w := by
  have hl : LetsOut Q → LetsOut Q' := fun ⟨a0, w0, h0⟩ => ⟨a0, w0, hq _ _ _ h0⟩
  simp only [wpList] at h ⊢
  split
  · rename_i hw
    rw [if_pos hw] at h
    rcases h with h | ⟨h1, h2⟩
    · refine .inl ?_
      unfold Oper.wp at *
      generalize (execOp a.eval o).run P w = r at *
      cases r with
      | ok n w' =>
        cases n with
        | value v => exact hq _ _ _ h
        | skip => exact hq _ _ _ h
        | defer dd => exact hq _ _ _ h
        | enter f args =>
          refine Calls.mono h fun e w'' he => ?_
          cases e with
          | returned u => exact hq _ _ _ he
          | panicked c => exact hq _ _ _ he
          | outgrown => exact hl he
        | row row args => exact Rows.mono h fun v w'' he => hq _ _ _ he
        | _ => exact h.elim
      | halt x w' =>
        cases x with
        | panic v => exact hq _ _ _ h
        | _ => first | exact h.elim | exact hq _ _ _ h | exact hl h
    · exact .inr ⟨h1, hl h2⟩
  · rename_i hw
    rw [if_neg hw] at h
    exact hq _ _ _ h
/-- A quiet operation. -/
def StepQ (P : Program) (ops : Array Oper) (c : Rc) (ms : List Bool) (L : List Value) (d : List Deferred) (w : World) (i : Nat) (o : Oper) : Prop :=
  ∀ (σ : Nat → Value) (w' : World), c.R w w' → (∀ j ∈ edgesOf ops i, c.G j ((c.sup j).map σ) w') →
    wpList P ops (fun e a'' w'' => e = .normal ∧ a''.defers = d ∧ c.R1 w' w'' ∧ c.G i ((c.sup i).map fun k => a''.tmps.getD k undef) w'') [o] { tmps := (fill σ ms 0 L).toArray, defers := d } w'
/-- A loud one. -/
def StepL (P : Program) (ops : Array Oper) (c : Rc) (ms : List Bool) (L : List Value) (d : List Deferred) (w : World) (i k : Nat) (o : Oper) : Prop :=
  ∀ (σ : Nat → Value) (w' : World), c.R w w' → (∀ j ∈ edgesOf ops i, c.G j ((c.sup j).map σ) w') → c.H k ((c.hd.getD k []).map σ) w' →
    wpList P ops (fun e a'' w'' => e = .normal ∧ a''.defers = d ∧ c.R w' w'' ∧ c.G i ((c.sup i).map fun k => a''.tmps.getD k undef) w'' ∧ c.H (k + 1) ((c.hd.getD (k + 1) []).map fun k => a''.tmps.getD k undef) w'') [o] { tmps := (fill σ ms 0 L).toArray, defers := d } w'
def Steps (P : Program) (ops : Array Oper) (c : Rc) (ms : List Bool) (L : List Value) (d : List Deferred) (w : World) : List Oper → List Bool → Nat → Nat → Prop
  | o :: r, false :: fl, i, k => StepQ P ops c ms L d w i o ∧ Steps P ops c ms L d w r fl (i + 1) k
  | o :: r, true :: fl, i, k => StepL P ops c ms L d w i k o ∧ Steps P ops c ms L d w r fl (i + 1) (k + 1)
  | _, _, _, _ => True
theorem steps_ph {c : Rc} {ms : List Bool} {L : List Value} {d : List Deferred} {w : World} (h1 : ∀ a b, c.R1 a b → c.R a b) :
    ∀ (l : List Oper) (fl : List Bool) (i k : Nat), fl.length = l.length → (∀ j, c.fl.getD (i + j) false = fl.getD j false) → Steps P ops c ms L d w l fl i k → PhSteps P ops c.ph ms L d w l i k := by
  intro l
  induction l with
  | nil => intro fl i k _ _ _; trivial
  | cons o r ih =>
    intro fl i k hl hfl hs
    cases fl with
    | nil => simp at hl
    | cons b fl =>
      have hb : c.loud i = b := by have := hfl 0; simpa [Rc.loud] using this
      have hfl2 : ∀ j, c.fl.getD (i + 1 + j) false = fl.getD j false := by
        intro j; have := hfl (j + 1); rw [show i + (j + 1) = i + 1 + j by omega] at this; simpa using this
      have hl2 : fl.length = r.length := by simpa using hl
      cases b with
      | false =>
        refine ⟨?_, ?_⟩
        · intro σ w' hR hd hH
          refine wpList_mono1 ?_ (hs.1 σ w' hR hd)
          rintro e a'' w'' ⟨e1, e2, e3, e4⟩
          refine ⟨e1, e2, h1 _ _ e3, e4, fun h => ?_, fun _ => e3, fun h => (Bool.false_ne_true h).elim⟩
          have h : c.loud i = true := h
          rw [hb] at h; cases h
        · have h := ih fl (i + 1) k hl2 hfl2 hs.2
          have e : (if c.ph.loud i then k + 1 else k) = k := by show (if c.loud i then k + 1 else k) = k; rw [hb]; rfl
          rw [e]; exact h
      | true =>
        refine ⟨?_, ?_⟩
        · intro σ w' hR hd hH
          refine wpList_mono1 ?_ (hs.1 σ w' hR hd (hH hb))
          rintro e a'' w'' ⟨e1, e2, e3, e4, e5⟩
          refine ⟨e1, e2, e3, e4, fun _ => e5, fun h => ?_, fun h => (Bool.false_ne_true h).elim⟩
          have h : c.loud i = false := h
          rw [hb] at h; cases h
        · have h := ih fl (i + 1) (k + 1) hl2 hfl2 hs.2
          have e : (if c.ph.loud i then k + 1 else k) = k + 1 := by show (if c.loud i then k + 1 else k) = k + 1; rw [hb]; rfl
          rw [e]; exact h

/-- A region that draws its order, by its slots' facts. -/
theorem wp_region_gs {id : Nat} {l : List Oper} (c : Rc) (ms : List Bool) (hm : P.follows .mixedOrders = true) (L : List Value)
    (hb : edgesBack l.toArray = true) (hok : phasesOk l.toArray c.sup c.loud (fun k => c.hd.getD k []) = true) (hms : marks2Ok l.toArray ms L.length = true)
    (hsup : (((List.range l.length).all fun i => (c.sup i).all fun k => decide (k < L.length) && (ms[k]?).getD false) &&
      (List.range (l.length + 1)).all fun i => (c.hd.getD i []).all fun k => decide (k < L.length) && (ms[k]?).getD false) = true)
    (hfl : c.fl.length = l.length) (d : List Deferred)
    (hR : ∀ a b e, c.R a b → c.R b e → c.R a e) (hR1 : ∀ a b, c.R1 a b → c.R a b) (hG : Sta c.R c.gs) (hH : StH c.R1 c.hs)
    (hRs : ∀ a b, c.R a b → a.heap.size ≤ b.heap.size) (w : World) (hRd : c.R w.drew w.drew) (hH0 : c.H 0 ((c.hd.getD 0 []).map fun k => L.getD k undef) w.drew)
    (steps : Steps P l.toArray c ms L d w.drew l c.fl 0 0)
    (fin : ∀ σ w', c.R w.drew w' → (∀ j, j < l.length → c.G j ((c.sup j).map σ) w') → c.H (rankOf c.loud l.length) ((c.hd.getD (rankOf c.loud l.length) []).map σ) w' → Q .normal { tmps := (fill σ ms 0 L).toArray, defers := d } w') :
    (Code.region id l.toArray true).wp P Q { tmps := L.toArray, defers := d } w := by
  have hG' : ∀ (i : Nat) (l : List Value) (w w' : World), c.R w w' → c.G i l w → c.G i l w' := by
    intro i l w w' h hg
    unfold Rc.G at hg ⊢
    rw [List.getD_eq_getElem?_getD] at hg ⊢
    cases hi : c.gs[i]? with
    | none => trivial
    | some g => rw [hi] at hg; exact hG g (List.mem_of_getElem? hi) _ _ _ h hg
  have hH' : ∀ (i : Nat) (l : List Value) (w w' : World), c.R1 w w' → c.H i l w → c.H i l w' := by
    intro i l w w' h hg
    unfold Rc.H at hg ⊢
    rw [List.getD_eq_getElem?_getD] at hg ⊢
    cases hi : c.hs[i]? with
    | none => trivial
    | some g => rw [hi] at hg; exact hH g (List.mem_of_getElem? hi) _ _ _ h hg
  exact wp_region_psteps c.ph ms hm L hb hok hms hsup d hR hR1 hG' hH' hRs w hRd hH0 (steps_ph hR1 l c.fl 0 0 hfl (by simp) steps) (fun σ w' h1 h2 h3 _ => fin σ w' h1 h2 h3)
end
end Go.Proofs.Ytogjfcmclfehkaa
namespace Go.Proofs.Ytogjfcmclfehkaa
open Go.RowKit

section
variable {P : Program} {ops : Array Oper} {Q : Exit → Act → World → Prop}
end
end Go.Proofs.Ytogjfcmclfehkaa
namespace Go.Proofs.Ytogjfcmclfehkaa
open Go.RowKit

/-- Cells written one behind the other. -/
def stores (w : World) (b : Nat) : Nat → List Value → World
  | _, [] => w
  | off, v :: vs => stores (w.setCell ⟨b, off, none⟩ v) b (off + 1) vs
def setMany (cs : List Value) : Nat → List Value → List Value
  | _, [] => cs
  | off, v :: vs => setMany (cs.set off v) (off + 1) vs
theorem blk_stores {b T : Nat} : ∀ (vs : List Value) (off : Nat) (w : World) (cs : List Value), Blk w b T cs → Blk (stores w b off vs) b T (setMany cs off vs) := by
  intro vs
  induction vs with
  | nil => intro off w cs h; exact h
  | cons v vs ih => intro off w cs h; exact ih (off + 1) _ _ (h.set off v)
theorem fr_stores {b : Nat} : ∀ (vs : List Value) (off : Nat) (w : World), Fr [b] w (stores w b off vs) := by
  intro vs
  induction vs with
  | nil => intro off w; exact Fr.refl _ _
  | cons v vs ih => intro off w; exact fr_set.trans (ih (off + 1) _)
theorem setMany_pre : ∀ (vs pre cs : List Value) (off : Nat), setMany (pre ++ cs) (pre.length + off) vs = pre ++ setMany cs off vs := by
  intro vs
  induction vs with
  | nil => intro pre cs off; rfl
  | cons v vs ih =>
    intro pre cs off
    show setMany ((pre ++ cs).set (pre.length + off) v) (pre.length + off + 1) vs = _
    rw [List.set_append_right _ _ (by omega), Nat.add_sub_cancel_left, Nat.add_assoc]
    exact ih pre _ _
theorem setMany_all : ∀ (vs xs cs : List Value), xs.length = vs.length → setMany (xs ++ cs) 0 vs = vs ++ cs := by
  intro vs
  induction vs with
  | nil => intro xs cs h; obtain rfl := List.eq_nil_of_length_eq_zero h; rfl
  | cons v vs ih =>
    intro xs cs h
    cases xs with
    | nil => cases h
    | cons x xs =>
      show setMany ((x :: (xs ++ cs)).set 0 v) 1 vs = _
      have e := setMany_pre vs [v] (xs ++ cs) 0
      rw [ih xs cs (by simpa using h)] at e
      exact e
theorem flat_stores {α : Type} {enc : α → List Value} {k : Nat} (hk : ∀ a, (enc a).length = k) : ∀ (l : List α) (i : Nat) (a : α), i < l.length → setMany (l.flatMap enc) (i * k) (enc a) = (l.set i a).flatMap enc := by
  intro l
  induction l with
  | nil => intro i a h; cases h
  | cons x l ih =>
    intro i a h
    cases i with
    | zero => rw [Nat.zero_mul]; exact setMany_all (enc a) (enc x) _ (by rw [hk, hk])
    | succ i =>
      have e : (i + 1) * k = (enc x).length + i * k := by rw [hk, Nat.add_mul]; omega
      rw [List.flatMap_cons, e, setMany_pre, ih i a (by simpa using h)]
      rfl
end Go.Proofs.Ytogjfcmclfehkaa
namespace Go.Proofs.MapL
open Go Go.Maps

/-- An element read as itself. -/
def heldR (v : Value) : Option (DataW Value × List MemPlace) := some (.held v, [])
section
variable {Q V : Type} [DecidableEq Q]
/-- What a list of keys and values has at a key. -/
def findL (L : List (Q × V)) (x : Q) : Option V := (L.find? fun p => decide (p.1 = x)).map (·.2)
def putL (L : List (Q × V)) (x : Q) (v : V) : List (Q × V) := if (findL L x).isSome then L.map fun p => if p.1 = x then (x, v) else p else L ++ [(x, v)]
def delL (L : List (Q × V)) (x : Q) : List (Q × V) := L.filter fun p => decide (p.1 ≠ x)
/-- A map's datum holds just what the list has. -/
structure Rel (el : Q → Lit) (ev : V → Value) (D : DataW Value) (L : List (Q × V)) : Prop where
  has : ∀ x, Maps.has D (el x) = (findL L x).isSome
  at_ : ∀ x z, D.atKey (el x) (.held z) = .held (((findL L x).map ev).getD z)
  size : Maps.size D = L.length
  apart : L.Pairwise fun p q => p.1 ≠ q.1
/-- Block b is a map that holds just what the list has. -/
def mapIs (el : Q → Lit) (ev : V → Value) (P : Program) (k : TypeId) (w : World) (b : Nat) (L : List (Q × V)) : Prop := ∃ D, w.ownsMap P k heldR b L.length D ∧ Rel el ev D L

variable {el : Q → Lit} {ev : V → Value} {P : Program} {k : TypeId} {w : World} {b : Nat} {L : List (Q × V)}

theorem own_size {n : Nat} {D : DataW Value} (h : w.ownsMap P k heldR b n D) : w.ownsMap P k heldR b (Maps.size D) D := by
  obtain ⟨es, clock, hb, F, hs, rfl⟩ := h
  exact ⟨es, clock, hb, F, by simp [Maps.size, length_sorted], rfl⟩
theorem mapIs.lt (h : mapIs el ev P k w b L) : b < w.heap.size := by obtain ⟨D, h, _⟩ := h; exact h.lt
theorem mapIs.kept {w' : World} {row : Option Nat} (h : mapIs el ev P k w b L) (hg : w.grownBy w' row) (hne : some b ≠ row) : mapIs el ev P k w' b L := by
  obtain ⟨D, h, hr⟩ := h
  exact ⟨D, h.kept hg hne, hr⟩
theorem mapIs_block {w' : World} (h : mapIs el ev P k w b L) (hb : w'.heap[b]? = w.heap[b]?) : mapIs el ev P k w' b L := by
  obtain ⟨D, ⟨es, clock, h1, h2⟩, hr⟩ := h
  exact ⟨D, ⟨es, clock, hb.trans h1, h2⟩, hr⟩
theorem mapIs_made (el : Q → Lit) (ev : V → Value) (P : Program) (k : TypeId) (w : World) : mapIs el ev P k (w.alloc (.map #[] 0)) w.heap.size [] :=
  ⟨.map [], World.ownsMap_made w P k heldR, ⟨fun _ => rfl, fun _ _ => rfl, rfl, List.Pairwise.nil⟩⟩
theorem held_inv {v x : Value} {ps : List MemPlace} (h : heldR v = some (.held x, ps)) : v = x := by
  unfold heldR at h
  have := congrArg Prod.fst (Option.some.inj h)
  injection this
theorem mapIs.look_ok {t e : TypeId} (h : mapIs el ev P k w b L) (K : Keyed P k) (ht : P.underlying t = some (.map k e)) {z : Value} (hz : (zeroValue e).run P w = .ok z w) {key : Value} {x : Q} (hkey : keyOf P k key = some (el x)) :
    (Instr.lookup t (.map (some b)) key true).run P w = .ok (.tuple #[((findL L x).map ev).getD z, .bool (findL L x).isSome]) w := by
  obtain ⟨D, h, hr⟩ := h
  obtain ⟨v, ps, hrun, hv⟩ := h.look_ok K ht hz (zd := .held z) (zp := []) rfl hkey
  rw [hr.at_] at hv
  rw [hrun, hr.has, held_inv hv]
theorem mapIs.look {t e : TypeId} (h : mapIs el ev P k w b L) (K : Keyed P k) (ht : P.underlying t = some (.map k e)) {z : Value} (hz : (zeroValue e).run P w = .ok z w) {key : Value} {x : Q} (hkey : keyOf P k key = some (el x)) :
    (Instr.lookup t (.map (some b)) key false).run P w = .ok (((findL L x).map ev).getD z) w := by
  obtain ⟨D, h, hr⟩ := h
  obtain ⟨v, ps, hrun, hv⟩ := h.lookup K ht hz (zd := .held z) (zp := []) rfl hkey
  rw [hr.at_] at hv
  rw [hrun, held_inv hv]
theorem mapIs.len {t e : TypeId} (h : mapIs el ev P k w b L) (ht : P.underlying t = some (.map k e)) (ty : TypeId) : (Builtin.len_ #[t] ty #[.map (some b)]).run P w = .ok (.int .i64 L.length) w := by
  obtain ⟨D, h, hr⟩ := h
  rw [h.len ht ty, hr.size]

theorem find_none {x : Q} (h : findL L x = none) : ∀ p ∈ L, p.1 ≠ x := by
  intro p hp he
  unfold findL at h
  rw [Option.map_eq_none_iff, List.find?_eq_none] at h
  exact h p hp (by simp [he])
theorem find_app_other {x y : Q} {v : V} (hne : y ≠ x) : findL (L ++ [(x, v)]) y = findL L y := by
  unfold findL
  rw [List.find?_append]
  have e : List.find? (fun p => decide (p.1 = y)) [(x, v)] = none := by simp [List.find?, Ne.symm hne]
  rw [e, Option.or_none]
theorem find_app_same {x : Q} {v : V} (h : findL L x = none) : findL (L ++ [(x, v)]) x = some v := by
  unfold findL at h ⊢
  rw [Option.map_eq_none_iff] at h
  rw [List.find?_append, h]
  simp [List.find?]
theorem find_map_other {x y : Q} {v : V} (hne : y ≠ x) : findL (L.map fun p => if p.1 = x then (x, v) else p) y = findL L y := by
  unfold findL
  induction L with
  | nil => rfl
  | cons p L ih =>
    rw [List.map_cons, List.find?_cons, List.find?_cons]
    by_cases hp : p.1 = x
    · rw [if_pos hp]
      have e1 : decide ((x, v).1 = y) = false := decide_eq_false (Ne.symm hne)
      have e2 : decide (p.1 = y) = false := by rw [hp]; exact decide_eq_false (Ne.symm hne)
      rw [e1, e2]; exact ih
    · rw [if_neg hp]
      cases decide (p.1 = y)
      · exact ih
      · rfl
theorem find_map_same {x : Q} {v : V} (h : (findL L x).isSome) : findL (L.map fun p => if p.1 = x then (x, v) else p) x = some v := by
  unfold findL at h ⊢
  induction L with
  | nil => cases h
  | cons p L ih =>
    rw [List.map_cons, List.find?_cons]
    rw [List.find?_cons] at h
    by_cases hp : p.1 = x
    · rw [if_pos hp]; simp
    · rw [if_neg hp]
      have e2 : decide (p.1 = x) = false := decide_eq_false hp
      rw [e2] at h ⊢
      exact ih h
theorem find_put (x y : Q) (v : V) : findL (putL L x v) y = if y = x then some v else findL L y := by
  unfold putL
  by_cases h : (findL L x).isSome
  · rw [if_pos h]
    by_cases hy : y = x
    · subst hy; rw [if_pos rfl, find_map_same h]
    · rw [if_neg hy, find_map_other hy]
  · rw [if_neg h]
    have h2 : findL L x = none := by simpa using h
    by_cases hy : y = x
    · subst hy; rw [if_pos rfl, find_app_same h2]
    · rw [if_neg hy, find_app_other hy]
theorem find_del (x y : Q) : findL (delL L x) y = if y = x then none else findL L y := by
  unfold findL delL
  induction L with
  | nil => split <;> rfl
  | cons p L ih =>
    rw [List.filter_cons, List.find?_cons]
    by_cases hp : p.1 = x
    · rw [if_neg (by simpa using hp), ih]
      by_cases hy : y = x
      · rw [if_pos hy, if_pos hy]
      · rw [if_neg hy, if_neg hy]
        have e : decide (p.1 = y) = false := by rw [hp]; exact decide_eq_false (Ne.symm hy)
        rw [e]
    · rw [if_pos (by simpa using hp), List.find?_cons]
      by_cases hpy : p.1 = y
      · have e : decide (p.1 = y) = true := decide_eq_true hpy
        rw [e, if_neg (by rw [← hpy]; exact hp)]
      · have e : decide (p.1 = y) = false := decide_eq_false hpy
        rw [e]; exact ih
theorem put_len (x : Q) (v : V) : (putL L x v).length = if (findL L x).isSome then L.length else L.length + 1 := by
  unfold putL
  split <;> simp
theorem put_apart (h : L.Pairwise fun p q => p.1 ≠ q.1) (x : Q) (v : V) : (putL L x v).Pairwise fun p q => p.1 ≠ q.1 := by
  unfold putL
  split
  · rw [List.pairwise_map]
    refine h.imp ?_
    intro p q hpq
    split
    · split
      · rename_i h1 h2; exact fun _ => hpq (h1.trans h2.symm)
      · rename_i h1 h2; exact fun e => h2 e.symm
    · split
      · rename_i h1 h2; exact fun e => h1 e
      · exact hpq
  · rename_i hn
    rw [List.pairwise_append]
    refine ⟨h, by simp, ?_⟩
    intro p hp q hq
    rw [List.mem_singleton.1 hq]
    exact find_none (by simpa using hn) p hp
theorem del_apart (h : L.Pairwise fun p q => p.1 ≠ q.1) (x : Q) : (delL L x).Pairwise fun p q => p.1 ≠ q.1 := h.filter _
theorem del_len (h : L.Pairwise fun p q => p.1 ≠ q.1) (x : Q) : (delL L x).length + (if (findL L x).isSome then 1 else 0) = L.length := by
  unfold delL findL
  induction L with
  | nil => rfl
  | cons p L ih =>
    have hL := ih (List.pairwise_cons.1 h).2
    have hp0 := (List.pairwise_cons.1 h).1
    rw [List.filter_cons, List.find?_cons, List.length_cons]
    by_cases hp : p.1 = x
    · rw [if_neg (by simpa using hp)]
      have e : decide (p.1 = x) = true := decide_eq_true hp
      have hn : L.find? (fun p => decide (p.1 = x)) = none := by
        rw [List.find?_eq_none]
        intro q hq hqx
        exact hp0 q hq (hp.trans (of_decide_eq_true hqx).symm)
      rw [hn] at hL
      rw [e]
      simpa using hL
    · rw [if_pos (by simpa using hp), List.length_cons]
      have e : decide (p.1 = x) = false := decide_eq_false hp
      rw [e]
      dsimp only
      omega
/-- 'm[k] = v'. -/
theorem mapIs.update {t e : TypeId} (hel : Function.Injective el) (h : mapIs el ev P k w b L) (K : Keyed P k) (ht : P.underlying t = some (.map k e)) (hn : L.length < maxLen) {key : Value} {x : Q} (hkey : keyOf P k key = some (el x)) (hkl : WideAt.IsKeyLit (el x)) (v : V) :
    ∃ w', (Instr.mapUpdate t (.map (some b)) key (ev v)).run P w = .ok () w' ∧ mapIs el ev P k w' b (putL L x v) ∧ w.mapTurned w' b := by
  obtain ⟨D, h, hr⟩ := h
  obtain ⟨w', h1, h2, h3⟩ := h.store K ht hn (d := .held (ev v)) (ps := []) hkey rfl
  have ht2 := h.tidy K
  have hsz : Maps.size (D.put (el x) (.held (ev v))) = (putL L x v).length := by
    rw [Maps.size_put ht2, hr.has, hr.size, put_len]
  refine ⟨w', h1, ⟨_, by rw [← hsz]; exact own_size h2, ?_, ?_, hsz, put_apart hr.apart x v⟩, h3⟩
  · intro y
    rw [find_put]
    by_cases hy : y = x
    · subst hy; rw [if_pos rfl, Maps.has_put_same h.isMap hkl]; rfl
    · rw [if_neg hy, Maps.has_put_other (fun e => hy (hel e)), hr.has]
  · intro y z
    rw [find_put]
    by_cases hy : y = x
    · subst hy; rw [if_pos rfl, Maps.atKey_put_same h.isMap hkl]; rfl
    · rw [if_neg hy, Maps.atKey_put_other (fun e => hy (hel e)), hr.at_]
/-- 'delete(m, k)'. -/
theorem mapIs.drop {t e : TypeId} (hel : Function.Injective el) (h : mapIs el ev P k w b L) (K : Keyed P k) (ht : P.underlying t = some (.map k e)) {key : Value} {x : Q} (hkey : keyOf P k key = some (el x)) (ty : TypeId) :
    ∃ w', (Builtin.delete_ #[t, k] ty #[.map (some b), key]).run P w = .ok (.tuple #[]) w' ∧ mapIs el ev P k w' b (delL L x) ∧ w.mapTurned w' b := by
  obtain ⟨D, h, hr⟩ := h
  obtain ⟨w', h1, h2, h3⟩ := h.drop K ht hkey ty
  have ht2 := h.tidy K
  have hsz : Maps.size (D.del (el x)) = (delL L x).length := by
    have h4 := Maps.size_del (k := el x) ht2
    have h5 := del_len hr.apart x
    rw [hr.has, hr.size] at h4
    omega
  refine ⟨w', h1, ⟨_, by rw [← hsz]; exact own_size h2, ?_, ?_, hsz, del_apart hr.apart x⟩, h3⟩
  · intro y
    rw [find_del]
    by_cases hy : y = x
    · subst hy; rw [if_pos rfl, Maps.has_del_same]; rfl
    · rw [if_neg hy, Maps.has_del_other (fun e => hy (hel e)), hr.has]
  · intro y z
    rw [find_del]
    by_cases hy : y = x
    · subst hy; rw [if_pos rfl, Maps.atKey_del_same]; rfl
    · rw [if_neg hy, Maps.atKey_del_other (fun e => hy (hel e)), hr.at_]
end
end Go.Proofs.MapL
namespace Go.Proofs.MapL
open Go Go.Maps
section
variable {Q V : Type} [DecidableEq Q] {el : Q → Lit} {ev : V → Value} {P : Program} {k : TypeId} {w : World} {b r : Nat} {L : List (Q × V)}
/-- Block b is a map that holds just what the list has; block r ranges over it, and has met these. -/
def rangeIs (el : Q → Lit) (ev : V → Value) (P : Program) (k : TypeId) (w : World) (b r : Nat) (L done : List (Q × V)) : Prop :=
  ∃ D left cnt, w.ranges P k heldR b r L.length D left cnt ∧ Rel el ev D L ∧ done.Pairwise (fun p q => p.1 ≠ q.1) ∧ (∀ p ∈ done, p ∈ L) ∧ (∀ p ∈ L, left (el p.1) = decide (∀ q ∈ done, q.1 ≠ p.1))
theorem rangeIs.map {done : List (Q × V)} (h : rangeIs el ev P k w b r L done) : mapIs el ev P k w b L := by
  obtain ⟨D, left, cnt, h, hr, -⟩ := h
  exact ⟨D, h.owns, hr⟩
theorem rangeIs.ne {done : List (Q × V)} (h : rangeIs el ev P k w b r L done) : r ≠ b := by
  obtain ⟨D, left, cnt, h, -⟩ := h
  exact h.ne
theorem rangeIs.rlt {done : List (Q × V)} (h : rangeIs el ev P k w b r L done) : r < w.heap.size := by
  obtain ⟨D, left, cnt, ⟨es, clock, since, seen, c0, h1, h2, h3, h4, h5, -⟩, -⟩ := h
  exact (Array.getElem?_eq_some_iff.1 h5).1
theorem rangeIs.iter {done : List (Q × V)} (h : rangeIs el ev P k w b r L done) : ∃ m s n c, w.heap[r]? = some (.mapIter m s n c) := by
  obtain ⟨D, left, cnt, ⟨es, clock, since, seen, c0, h1, h2, h3, h4, h5, -⟩, -⟩ := h
  exact ⟨_, _, _, _, h5⟩
theorem rangeIs.keep {w' : World} {done : List (Q × V)} (h : rangeIs el ev P k w b r L done) (hb : w'.heap[b]? = w.heap[b]?) (hr : w'.heap[r]? = w.heap[r]?) : rangeIs el ev P k w' b r L done ∧ w'.rangeLeft b r = w.rangeLeft b r := by
  obtain ⟨D, left, cnt, ⟨es, clock, since, seen, c0, h1, h2, h3, h4, h5, h6⟩, hh⟩ := h
  exact ⟨⟨D, left, cnt, ⟨es, clock, since, seen, c0, hb.trans h1, h2, h3, h4, hr.trans h5, h6⟩, hh⟩, by unfold World.rangeLeft; rw [hb, hr]⟩
theorem find_mem {x : Q} {v : V} (h : findL L x = some v) : (x, v) ∈ L := by
  unfold findL at h
  rw [Option.map_eq_some_iff] at h
  obtain ⟨p, h1, rfl⟩ := h
  have h2 := List.find?_some h1
  have h3 := List.mem_of_find?_eq_some h1
  have e : p.1 = x := by simpa using h2
  subst e
  exact h3
theorem mem_find {x : Q} {v : V} (ha : L.Pairwise fun p q => p.1 ≠ q.1) (h : (x, v) ∈ L) : findL L x = some v := by
  unfold findL
  induction L with
  | nil => cases h
  | cons p L ih =>
    rw [List.find?_cons]
    rcases List.mem_cons.1 h with rfl | h'
    · simp
    · have hne := (List.pairwise_cons.1 ha).1 _ h'
      have e : decide (p.1 = x) = false := decide_eq_false hne
      rw [e]
      exact ih (List.pairwise_cons.1 ha).2 h'
/-- 'range m'. -/
theorem map_range {ops : Array Oper} {rest : List Oper} {o : Oper} {a : Act} {QQ : Exit → Act → World → Prop} (hg : o.guard = none) (m : Operand) (t : TypeId) (hop : o.op = Op.range t m) (e : TypeId) (K : Keyed P k) (ht : P.underlying t = some (.map k e))
    (hm : a.eval m = .map (some b)) (hown : mapIs el ev P k w b L)
    (hK : ∀ w', rangeIs el ev P k w' b w.heap.size L [] → w.grownBy w' none → w'.heap.size = w.heap.size + 1 → wpList P ops QQ rest (a.put o.dst (.pointer (some ⟨w.heap.size, 0, none⟩))) w') :
    wpList P ops QQ (o :: rest) a w := by
  obtain ⟨D, hown, hr⟩ := hown
  refine wpList_range_own w hg m t hop k e K ht heldR b L.length D hm hown ?_
  intro w' h1 h2 h3
  refine hK w' ⟨D, _, _, h1, hr, .nil, by simp, ?_⟩ h2 h3
  intro p hp
  rw [hr.has, mem_find hr.apart (show (p.1, p.2) ∈ L from hp)]
  simp
/-- The step. -/
theorem map_next {ops : Array Oper} {rest : List Oper} {o : Oper} {a : Act} {QQ : Exit → Act → World → Prop} (hel : Function.Injective el) (hlit : ∀ q, WideAt.IsKeyLit (el q)) (kv : Q → Value) (hinv : ∀ key kl, keyOf P k key = some kl → ∃ q, key = kv q ∧ kl = el q)
    (hg : o.guard = none) (it : Operand) (hop : o.op = Op.next it false) (K : Keyed P k) {done : List (Q × V)} (hit : a.eval it = .pointer (some ⟨r, 0, none⟩)) (h : rangeIs el ev P k w b r L done)
    (hDone : (∀ p ∈ L, p ∈ done) → wpList P ops QQ rest (a.put o.dst (.tuple #[.bool false])) w)
    (hMore : ∀ q v w', (q, v) ∈ L → (∀ p ∈ done, p.1 ≠ q) → rangeIs el ev P k w' b r L (done ++ [(q, v)]) → w'.rangeLeft b r < w.rangeLeft b r → w.grownBy w' (some r) → w'.heap.size = w.heap.size →
      (Instr.entry (.pointer (some ⟨r, 0, none⟩))).run P w' = .ok (.tuple #[kv q, ev v]) w' → wpList P ops QQ rest (a.put o.dst (.tuple #[.bool true, kv q, ev v])) w') :
    wpList P ops QQ (o :: rest) a w := by
  obtain ⟨D, left, cnt, h, hr, hp, hs, hl⟩ := h
  refine wpList_next_ranges w hg it hop k K heldR kv (fun v : Value => v) (fun key kl hk => by obtain ⟨q, e, -⟩ := hinv key kl hk; exact ⟨q, e⟩) (fun v _ _ => ⟨v, rfl⟩) b r L.length D left cnt hit h ?_ ?_
  · intro _ h0
    refine hDone fun p hpL => ?_
    have h1 := hl p hpL
    rw [h0] at h1
    have h2 : ¬ ∀ q ∈ done, q.1 ≠ p.1 := of_decide_eq_false h1.symm
    rcases Classical.em (p ∈ done) with h4 | h4
    · exact h4
    exfalso
    apply h2
    intro q hq hqp
    apply h4
    have e1 := mem_find hr.apart (show (q.1, q.2) ∈ L from hs q hq)
    have e2 := mem_find hr.apart (show (p.1, p.2) ∈ L from hpL)
    rw [hqp, e2] at e1
    have : p = q := Prod.ext hqp.symm (Option.some.inj e1)
    rw [this]; exact hq
  · intro x c kl y w' cnt' hkey hlk hv hat hrg hlt hgr hsz hen
    obtain ⟨q, e1, rfl⟩ := hinv _ _ hkey
    have hy : y = (.held c, []) := (Option.some.inj hv).symm
    have hfind : ∃ v, findL L q = some v ∧ c = ev v := by
      have a1 := hat (.held (.bool true))
      have a2 := hat (.held (.bool false))
      rw [hr.at_, hy] at a1 a2
      cases hf : findL L q with
      | some v => rw [hf] at a1; exact ⟨v, rfl, by injection a1 with a1; exact a1.symm⟩
      | none =>
        rw [hf] at a1 a2
        injection a1 with a1
        injection a2 with a2
        have := a1.trans a2.symm
        simp at this
    obtain ⟨v, hf, rfl⟩ := hfind
    have hm := find_mem hf
    have hnew : ∀ p ∈ done, p.1 ≠ q := by
      have h1 := hl _ hm
      rw [hlk] at h1
      simpa using h1
    have e1' : kv x = kv q := e1
    rw [e1'] at hen ⊢
    refine hMore q v w' hm hnew ⟨D, _, cnt', hrg, hr, ?_, ?_, ?_⟩ (by rw [hrg.left_eq, h.left_eq]; exact hlt) hgr hsz hen
    · rw [List.pairwise_append]
      refine ⟨hp, by simp, ?_⟩
      intro a ha c hc
      rw [List.mem_singleton.1 hc]
      exact hnew a ha
    · intro p hp'
      rcases List.mem_append.1 hp' with h1 | h1
      · exact hs p h1
      · rw [List.mem_singleton.1 h1]; exact hm
    · intro p hpL
      have h1 := hl p hpL
      have hsame : (el p.1).sameKey (el q) = decide (p.1 = q) := by
        by_cases e : p.1 = q
        · rw [e, decide_eq_true rfl]; exact WideAt.sameKey_self (hlit q)
        · rw [decide_eq_false e]
          cases hh : (el p.1).sameKey (el q) with
          | false => rfl
          | true => exact absurd (hel (WideAt.sameKey_eq hh)) e
      rw [h1, hsame]
      by_cases e : p.1 = q
      · simp [e]
      · simp only [e, decide_false, Bool.not_false, Bool.and_true]
        rw [decide_eq_decide]
        constructor
        · intro hh x hx
          rcases List.mem_append.1 hx with h3 | h3
          · exact hh x h3
          · rw [List.mem_singleton.1 h3]; exact Ne.symm e
        · intro hh x hx
          exact hh x (List.mem_append_left _ hx)
end
end Go.Proofs.MapL
namespace Go.Proofs.MapL
open Go Go.Maps

/-! A map's list may stand in any order. -/
section
variable {Q V : Type} [DecidableEq Q] {el : Q → Lit} {ev : V → Value} {P : Program} {k : TypeId} {w : World} {b : Nat} {L L' : List (Q × V)}
theorem find_perm (ha : L.Pairwise fun p q => p.1 ≠ q.1) (hp : L.Perm L') (x : Q) : findL L x = findL L' x := by
  have ha' : L'.Pairwise fun p q => p.1 ≠ q.1 := (hp.pairwise_iff (fun {a b} h => Ne.symm h)).1 ha
  cases h : findL L' x with
  | none =>
    have h1 := find_none h
    cases h2 : findL L x with
    | none => rfl
    | some v => exact absurd rfl (h1 _ (hp.mem_iff.1 (find_mem h2)))
  | some v => exact mem_find ha (hp.mem_iff.2 (find_mem h))
theorem Rel.perm {D : DataW Value} (h : Rel el ev D L) (hp : L.Perm L') : Rel el ev D L' :=
  ⟨fun x => by rw [h.has, find_perm h.apart hp], fun x z => by rw [h.at_, find_perm h.apart hp], by rw [h.size, hp.length_eq], (hp.pairwise_iff (fun {a b} h => Ne.symm h)).1 h.apart⟩
theorem mapIs.perm (h : mapIs el ev P k w b L) (hp : L.Perm L') : mapIs el ev P k w b L' := by
  obtain ⟨D, h, hr⟩ := h
  exact ⟨D, by rw [← hp.length_eq]; exact h, hr.perm hp⟩
theorem mapIs.apart (h : mapIs el ev P k w b L) : L.Pairwise fun p q => p.1 ≠ q.1 := by obtain ⟨_, -, h⟩ := h; exact h.apart
theorem put_new {x : Q} {v : V} (h : findL L x = none) : putL L x v = L ++ [(x, v)] := by unfold putL; rw [h]; rfl
theorem del_none {x : Q} (h : findL L x = none) : delL L x = L := by
  unfold delL; rw [List.filter_eq_self]
  intro p hp
  simpa using find_none h p hp
end
end Go.Proofs.MapL
namespace Go.Proofs.Ytogjfcmclfehkaa
open Go Go.RowKit Go.Proofs.MapL

/-- A fact that the walk does not see. -/
structure Hd (p : Prop) : Prop where
  out : p
section
variable {w w' : World} {S : List Nat}
theorem map_fr {Q V : Type} [DecidableEq Q] {el : Q → Lit} {ev : V → Value} {P : Program} {k : TypeId} {b : Nat} {L : List (Q × V)} (h : mapIs el ev P k w b L) (hf : Fr S w w') (hb : b ∉ S) : mapIs el ev P k w' b L := mapIs_block h (hf.block b h.lt hb)
/-- A map is no block of cells. -/
theorem map_ne {Q V : Type} [DecidableEq Q] {el : Q → Lit} {ev : V → Value} {P : Program} {k : TypeId} {b c T : Nat} {L : List (Q × V)} {cs : List Value} (h : mapIs el ev P k w b L) (hc : Blk w c T cs) : b ≠ c := by
  rintro rfl
  obtain ⟨D, ⟨es, clock, h1, -⟩, -⟩ := h
  unfold Blk at hc
  rw [h1] at hc
  cases hc
theorem map_ne_cell {Q V : Type} [DecidableEq Q] {el : Q → Lit} {ev : V → Value} {P : Program} {k : TypeId} {b g i : Nat} {v : Value} {L : List (Q × V)} (h : mapIs el ev P k w b L) (hc : w.cell? ⟨g, i, none⟩ = some v) : b ≠ g := by
  rintro rfl
  obtain ⟨D, ⟨es, clock, h1, -⟩, -⟩ := h
  simp [World.cell?, h1] at hc
theorem Fr.turned {b : Nat} (h : w.mapTurned w' b) : Fr [b] w w' := by
  obtain ⟨es, clock, es', clock', h1, rfl⟩ := h
  exact ⟨rfl, rfl, rfl, by simp [ChangeMaps.setBlock], fun k hk hn => ChangeMaps.heap_setBlock_other h1 _ (by simpa using hn)⟩
theorem alloc_of {w w1 : World} {o : Obj} (hw : w1 = w.alloc o) : Fr [] w w1 := by rw [hw]; exact (Fr.refl [] w).alloc _
theorem blk_of {w w1 : World} {T : TypeId} {c : List Value} (hw : w1 = w.alloc (.cells c.toArray T)) : Blk w1 w.heap.size T c := by rw [hw]; exact Blk.new _ _ _
end
section
variable {Q V : Type} [DecidableEq Q] {el : Q → Lit} {ev : V → Value} {P : Program} {k : TypeId} {w w' : World} {b r : Nat} {L done : List (Q × V)} {S : List Nat}
theorem own_map_ne {base E size n : Nat} {v : Value} {xs : List Value} (h : mapIs el ev P k w b L) (ho : w.ownsRow base E size v n xs) : ∀ j, v.ownBlock = some j → j ≠ b := by
  intro j hj
  rcases ho.2 with ⟨rfl, -⟩ | ⟨g, cap, cur, rfl, -, hgg, -⟩
  · simp [Value.ownBlock] at hj
  · simp only [Value.ownBlock, Option.some.injEq] at hj
    subst hj
    rintro rfl
    obtain ⟨D, ⟨es, clock, h1, -⟩, -⟩ := h
    rw [h1] at hgg
    cases hgg
theorem iter_ne {base E size n : Nat} {v : Value} {xs : List Value} (h : rangeIs el ev P k w b r L done) (ho : w.ownsRow base E size v n xs) : ∀ j, v.ownBlock = some j → j ≠ r ∧ j ≠ b := by
  intro j hj
  refine ⟨?_, own_map_ne h.map ho j hj⟩
  rcases ho.2 with ⟨rfl, -⟩ | ⟨g, cap, cur, rfl, -, hgg, -⟩
  · simp [Value.ownBlock] at hj
  · simp only [Value.ownBlock, Option.some.injEq] at hj
    subst hj
    rintro rfl
    obtain ⟨m, s, n, c, hit⟩ := h.iter
    rw [hgg] at hit; cases hit
theorem range_fr (h : rangeIs el ev P k w b r L done) (hf : Fr S w w') (hb : b ∉ S) (hr : r ∉ S) : rangeIs el ev P k w' b r L done ∧ w'.rangeLeft b r = w.rangeLeft b r :=
  h.keep (hf.block b h.map.lt hb) (hf.block r h.rlt hr)
theorem r_apart (h : rangeIs el ev P k w b r L done) : done.Pairwise fun p q => p.1 ≠ q.1 := by
  obtain ⟨_, _, _, -, -, h, -⟩ := h
  exact h
theorem r_sub (h : rangeIs el ev P k w b r L done) : ∀ p ∈ done, p ∈ L := by
  obtain ⟨_, _, _, -, -, -, h, -⟩ := h
  exact h
omit [DecidableEq Q] in
theorem perm_done (hL : L.Pairwise fun p q => p.1 ≠ q.1) (hd : done.Pairwise fun p q => p.1 ≠ q.1) (h1 : ∀ p ∈ done, p ∈ L) (h2 : ∀ p ∈ L, p ∈ done) : done.Perm L :=
  (List.perm_ext_iff_of_nodup (hd.imp fun h e => h (by rw [e])) (hL.imp fun h e => h (by rw [e]))).2 fun p => ⟨h1 p, h2 p⟩
theorem done_len (h : rangeIs el ev P k w b r L done) : done.length ≤ L.length := by
  have hL := h.map.apart
  have h2 : done.Perm (L.filter fun p => decide (p.1 ∈ done.map (·.1))) := by
    refine (List.perm_ext_iff_of_nodup ((r_apart h).imp fun h e => h (by rw [e])) ((hL.imp fun h e => h (by rw [e])).filter _)).2 fun p => ?_
    rw [List.mem_filter]
    constructor
    · intro hp; exact ⟨r_sub h p hp, by simpa using ⟨p.2, hp⟩⟩
    · rintro ⟨hp, hq⟩
      have hq : ∃ v, (p.1, v) ∈ done := by simpa using hq
      obtain ⟨v, hv⟩ := hq
      have e1 := mem_find hL (r_sub h _ hv)
      have e2 := mem_find hL (show (p.1, p.2) ∈ L from hp)
      rw [e1] at e2
      have : v = p.2 := Option.some.inj e2
      subst this
      exact hv
  have h3 := h2.length_eq
  have h4 := List.length_filter_le (fun p : Q × V => decide (p.1 ∈ done.map (·.1))) L
  omega
end
theorem Blk.cells2 {w : World} {g T : Nat} {a b : Value} (H : Blk w g T [a, b]) : w.cell? ⟨g, 0, none⟩ = some a ∧ w.cell? ⟨g, 1, none⟩ = some b ∧ (∀ j, w.frozen? ⟨g, j, none⟩ = false) := ⟨H.cell rfl, H.cell rfl, fun j => H.free j⟩
theorem Blk.cells3 {w : World} {g T : Nat} {a b c : Value} (H : Blk w g T [a, b, c]) :
    w.cell? ⟨g, 0, none⟩ = some a ∧ w.cell? ⟨g, 1, none⟩ = some b ∧ w.cell? ⟨g, 2, none⟩ = some c ∧ (∀ j, w.frozen? ⟨g, j, none⟩ = false) :=
  ⟨H.cell rfl, H.cell rfl, H.cell rfl, fun j => H.free j⟩
end Go.Proofs.Ytogjfcmclfehkaa
