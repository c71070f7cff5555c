import Derived.Test.YtbmejolmbfmdiaaProg
import Derived.Test.YtbmejolmbfmdiaaMapL
import Derived.Test.YtbmejolmbfmdiaaReg3
import Derived.WalkKit
import Derived.ProofKit
import Derived.Below
import Derived.DeepKeys4
namespace Go.Proofs.Ytbmejolmbfmdiaa
open Go Go.RowKit Go.Proofs.MapL

structure Hd (p : Prop) : Prop where
  out : p
/-- Still to be told. -/
def liveB (x now : Int) : Bool := decide (x > now)
theorem live_calls (x now : Int) (w : World) : Calls Try.prog 21 #[.int .u64 x, .int .u64 now] w fun e w' => e = .returned (.bool (liveB x now)) ∧ w' = w := by
  by_cases h : now < x
  · have h1 : decide (x > now) = true := decide_eq_true h
    go_enter Try.func21, Try.ntmps21
    go_wp2
    go_ret
    exact ⟨by simp [liveB, h], rfl⟩
  · have h1 : decide (x > now) = false := decide_eq_false h
    go_enter Try.func21, Try.ntmps21
    go_wp2
    go_ret
    exact ⟨by simp [liveB, h], rfl⟩
/-- A question. -/
structure Qn where
  name : ByteArray
  ty : Int
  cl : Int
  ok : name.size ≤ maxLen ∧ (0 ≤ ty ∧ ty < 65536) ∧ (0 ≤ cl ∧ cl < 65536)
deriving DecidableEq
def Qn.c (q : Qn) : List Value := [.string q.name, .int .u16 q.ty, .int .u16 q.cl]
def Qn.v (q : Qn) : Value := .agg #[.string q.name, .int .u16 q.ty, .int .u16 q.cl]
/-- An entry. -/
structure En where
  q : Qn
  ra : Option Addr
  rn : Nat
  rc : Nat
  rcode : Int
  rank : Int
  expire : Int
def En.c (e : En) : List Value := [.string e.q.name, .int .u16 e.q.ty, .int .u16 e.q.cl, .slice e.ra e.rn e.rc, .int .i64 e.rcode, .int .i64 e.rank, .int .u64 e.expire]
def En.v (e : En) : Value := .agg #[.string e.q.name, .int .u16 e.q.ty, .int .u16 e.q.cl, .slice e.ra e.rn e.rc, .int .i64 e.rcode, .int .i64 e.rank, .int .u64 e.expire]
def beatsB (o e : En) (now : Int) : Bool := !liveB o.expire now || decide (e.rank ≥ o.rank)
theorem beats_calls (o e : En) (now : Int) (w : World) : Calls Try.prog 35 #[o.v, e.v, .int .u64 now] w fun r w' => r = .returned (.bool (beatsB o e now)) ∧ Fr [] w w' := by
  unfold En.v beatsB
  have hb0 := ((Fr.refl [] w).alloc (.cells o.c.toArray 32)).alloc (.cells e.c.toArray 32)
  unfold En.c at hb0
  rcases hl : liveB o.expire now with _ | _
  · go_enter Try.func35, Try.ntmps35
    go_wp2_with fail
    refine (live_calls _ _ _).mono ?_
    rintro r w1 ⟨rfl, rfl⟩
    rw [hl]
    go_wp2
    go_ret
    exact ⟨rfl, hb0⟩
  · go_enter Try.func35, Try.ntmps35
    go_wp2_with fail
    refine (live_calls _ _ _).mono ?_
    rintro r w1 ⟨rfl, rfl⟩
    rw [hl]
    go_wp2
    go_ret
    exact ⟨by simp, hb0⟩
theorem laidOut : laidOutB Try.prog = true := by kernel_rfl
theorem kq : Maps.Keyed Try.prog 28 := Maps.Keyed.of_law (deep_law_laid laidOut (m := 2) (by omega) (of_decide_eq_true (by kernel_rfl)) (by kernel_rfl) (by kernel_rfl))
def Qn.lit (q : Qn) : Lit := .string (keyBytes [.string q.name.data.toList, .int .u16 q.ty, .int .u16 q.cl])
theorem key_lits (q : Qn) : Try.prog.keyLits (Try.prog.types.size + 1) 28 [.string q.name, .int .u16 q.ty, .int .u16 q.cl] = some [.string q.name.data.toList, .int .u16 q.ty, .int .u16 q.cl] := by
  obtain ⟨m, hm⟩ : ∃ m, Try.prog.types.size = m + 1 := ⟨Try.prog.types.size - 1, by
    have : 0 < Try.prog.types.size := of_decide_eq_true (by kernel_rfl)
    omega⟩
  rw [hm]
  have hq : Try.prog.cellsOf 28 = 3 := by kernel_rfl
  have h9 : Try.prog.cellsOf 9 = 1 := by kernel_rfl
  have h23 : Try.prog.cellsOf 26 = 1 := by kernel_rfl
  have hs : Try.prog.keyLits (m + 1) 9 [.string q.name] = some [.string q.name.data.toList] := by
    unfold Program.keyLits
    rw [Try.underlying9]
    dsimp only
    rw [if_pos q.ok.1]
  have hw : ∀ t : Int, 0 ≤ t ∧ t < 65536 → (Lit.int .u16 t).wf = true := by
    intro t ht
    simp [Lit.wf, IntKind.min, IntKind.max, IntKind.signed, IntKind.bits]
    omega
  have hi : ∀ t : Int, 0 ≤ t ∧ t < 65536 → Try.prog.keyLits (m + 1) 26 [.int .u16 t] = some [.int .u16 t] := by
    intro t ht
    unfold Program.keyLits
    rw [Try.underlying26]
    dsimp only
    rw [if_pos ⟨rfl, hw t ht⟩]
  unfold Program.keyLits
  rw [Try.underlying28]
  dsimp only
  rw [if_pos ⟨by rw [hq]; rfl, by decide +kernel⟩]
  simp only [List.mapM_cons, List.mapM_nil, h9, h23, List.drop_zero, List.drop_succ_cons, List.take_succ_cons, List.take_zero, hs, hi _ q.ok.2.1, hi _ q.ok.2.2]
  rfl
theorem key_q (q : Qn) : keyOf Try.prog 28 q.v = some q.lit := by
  unfold keyOf
  rw [Try.underlying28]
  dsimp only
  have h1 : Try.prog.keyType 28 = true := by kernel_rfl
  have h2 : q.v.formed Try.prog 28 = true := by
    have h4 : Try.prog.cellsOf 28 = 3 := by kernel_rfl
    unfold Qn.v Value.formed
    rw [Try.underlying28, h4]
    rfl
  rw [h1, h2]
  have h3 : q.v.cells.toList = [.string q.name, .int .u16 q.ty, .int .u16 q.cl] := rfl
  rw [h3, key_lits]
  rfl
theorem lit_inj : Function.Injective Qn.lit := by
  intro a b h
  have h1 := key_q a
  have h2 := key_q b
  rw [h] at h1
  have h3 := kq.inj h1 h2
  obtain ⟨n, t, c, hn⟩ := a
  obtain ⟨n', t', c', hn'⟩ := b
  simp only [Qn.v, Value.agg.injEq, Array.mk.injEq, List.cons.injEq, Value.string.injEq, Value.int.injEq, and_true, true_and] at h3
  obtain ⟨e1, e2, e3⟩ := h3
  subst e1 e2 e3
  rfl
theorem lit_key (q : Qn) : WideAt.IsKeyLit q.lit := trivial

section
variable {w w' : World} {S : List Nat}
theorem map_fr {Q V : Type} [DecidableEq Q] {el : Q → Lit} {ev : V → Value} {P : Program} {k : TypeId} {b : Nat} {L : List (Q × V)} (h : mapIs el ev P k w b L) (hf : Fr S w w') (hb : b ∉ S) : mapIs el ev P k w' b L := mapIs_block h (hf.block b h.lt hb)
theorem map_frT {Q V : Type} [DecidableEq Q] {el : Q → Lit} {ev : V → Value} {P : Program} {k : TypeId} {b N T : Nat} {L : List (Q × V)} (h : mapIs el ev P k w b L) (hf : FrT N S T w w') (hb : b ∉ S) (hN : b < N) : mapIs el ev P k w' b L := by
  refine mapIs_block h ?_
  rcases hf.block b h.lt hb with h1 | ⟨h1, -⟩
  · exact h1
  · omega
/-- A map is no block of cells. -/
theorem map_ne {Q V : Type} [DecidableEq Q] {el : Q → Lit} {ev : V → Value} {P : Program} {k : TypeId} {b c T : Nat} {L : List (Q × V)} {cs : List Value} (h : mapIs el ev P k w b L) (hc : Blk w c T cs) : b ≠ c := by
  rintro rfl
  obtain ⟨D, ⟨es, clock, h1, -⟩, -⟩ := h
  unfold Blk at hc
  rw [h1] at hc
  cases hc
theorem Fr.turned {b : Nat} (h : w.mapTurned w' b) : Fr [b] w w' := by
  obtain ⟨es, clock, es', clock', h1, rfl⟩ := h
  exact ⟨rfl, rfl, rfl, by simp [ChangeMaps.setBlock], fun k hk hn => ChangeMaps.heap_setBlock_other h1 _ (by simpa using hn)⟩
end
theorem Blk.cells7 {w : World} {g T : Nat} {a b c d e f h : Value} (H : Blk w g T [a, b, c, d, e, f, h]) :
    w.cell? ⟨g, 0, none⟩ = some a ∧ w.cell? ⟨g, 1, none⟩ = some b ∧ w.cell? ⟨g, 2, none⟩ = some c ∧ w.cell? ⟨g, 3, none⟩ = some d ∧ w.cell? ⟨g, 4, none⟩ = some e ∧ w.cell? ⟨g, 5, none⟩ = some f ∧ w.cell? ⟨g, 6, none⟩ = some h ∧ (∀ j, w.frozen? ⟨g, j, none⟩ = false) :=
  ⟨H.cell rfl, H.cell rfl, H.cell rfl, H.cell rfl, H.cell rfl, H.cell rfl, H.cell rfl, fun j => H.free j⟩
theorem Blk.seven {w w2 : World} {g T : Nat} {a b c d e f h a' b' c' d' e' f' h' : Value} (H : Blk w g T [a, b, c, d, e, f, h])
    (hw : w2 = ((((((w.setCell ⟨g, 0, none⟩ a').setCell ⟨g, 1, none⟩ b').setCell ⟨g, 2, none⟩ c').setCell ⟨g, 3, none⟩ d').setCell ⟨g, 4, none⟩ e').setCell ⟨g, 5, none⟩ f').setCell ⟨g, 6, none⟩ h') : Blk w2 g T [a', b', c', d', e', f', h'] ∧ Fr [g] w w2 := by
  subst hw
  exact ⟨by simpa using ((((((H.set 0 a').set 1 b').set 2 c').set 3 d').set 4 e').set 5 f').set 6 h', (((((fr_set.trans fr_set).trans fr_set).trans fr_set).trans fr_set).trans fr_set).trans fr_set⟩
theorem Blk.cells3 {w : World} {g T : Nat} {a b c : Value} (H : Blk w g T [a, b, c]) :
    w.cell? ⟨g, 0, none⟩ = some a ∧ w.cell? ⟨g, 1, none⟩ = some b ∧ w.cell? ⟨g, 2, none⟩ = some c ∧ (∀ j, w.frozen? ⟨g, j, none⟩ = false) :=
  ⟨H.cell rfl, H.cell rfl, H.cell rfl, fun j => H.free j⟩

/-- Entries by their questions. -/
def kv (L : List En) : List (Qn × En) := L.map fun e => (e.q, e)
def findE (L : List En) (q : Qn) : Option En := L.find? fun e => decide (e.q = q)
def putE (L : List En) (e : En) : List En := if (findE L e.q).isSome then L.map (fun x => if x.q = e.q then e else x) else L ++ [e]
def delE (L : List En) (q : Qn) : List En := L.filter fun e => decide (e.q ≠ q)
theorem kv_len (L : List En) : (kv L).length = L.length := by simp [kv]
theorem kv_find (L : List En) (q : Qn) : findL (kv L) q = findE L q := by
  unfold findL findE kv
  rw [List.find?_map]
  have e : ((fun p : Qn × En => decide (p.1 = q)) ∘ fun e : En => (e.q, e)) = fun e => decide (e.q = q) := rfl
  rw [e]
  cases L.find? (fun e => decide (e.q = q)) with
  | none => rfl
  | some e => rfl
theorem kv_put (L : List En) (e : En) : putL (kv L) e.q e = kv (putE L e) := by
  unfold putL putE
  rw [kv_find]
  split
  · unfold kv
    rw [List.map_map, List.map_map]
    apply List.map_congr_left
    intro x _
    simp only [Function.comp]
    split <;> rfl
  · simp [kv]
theorem kv_del (L : List En) (q : Qn) : delL (kv L) q = kv (delE L q) := by
  unfold delL delE kv
  rw [List.filter_map]
  rfl
/-- Block p is a model: its map, block b, holds just these entries; room. -/
structure MAt (w : World) (p b : Nat) (room : Int) (L : List En) : Prop where
  blk : Blk w p 61 [.map (some b), .int .i64 room]
  map : mapIs Qn.lit En.v Try.prog 28 w b (kv L)
section
variable {w w' : World} {p b : Nat} {room : Int} {L : List En} {S : List Nat}
theorem MAt.ne (h : MAt w p b room L) : b ≠ p := map_ne h.map h.blk
theorem MAt.fr (h : MAt w p b room L) (hf : Fr S w w') (hp : p ∉ S) (hb : b ∉ S) : MAt w' p b room L := ⟨h.blk.fr hf hp, map_fr h.map hf hb⟩
theorem MAt.frT {N T : Nat} (h : MAt w p b room L) (hf : FrT N S T w w') (hp : p ∉ S) (hb : b ∉ S) (hpN : p < N) (hbN : b < N) : MAt w' p b room L := ⟨h.blk.frT hf hp (.inl hpN), map_frT h.map hf hb hbN⟩
theorem MAt.cells (h : MAt w p b room L) : w.cell? ⟨p, 0, none⟩ = some (.map (some b)) ∧ w.cell? ⟨p, 1, none⟩ = some (.int .i64 room) := ⟨h.blk.cell rfl, h.blk.cell rfl⟩
theorem MAt.plt (h : MAt w p b room L) : p < w.heap.size := h.blk.lt
theorem MAt.blt (h : MAt w p b room L) : b < w.heap.size := h.map.lt
theorem new_calls (room : Int) (h : 1 ≤ room) (w : World) : Calls Try.prog 12 #[.int .i64 room] w fun r w' => ∃ p b, r = .returned (.pointer (some ⟨p, 0, none⟩)) ∧ MAt w' p b room [] ∧ Fr [] w w' ∧ w.heap.size ≤ p ∧ w.heap.size ≤ b := by
  have h1 : decide (room < 1) = false := decide_eq_false (by omega)
  have hmm := @run_makeMap Try.prog
  have hm := mapIs_made Qn.lit En.v Try.prog 28 w
  have hF := ((Fr.refl [] w).alloc (.map #[] 0)).alloc (.cells #[.map (some w.heap.size), .int .i64 room] 61)
  have hB := Blk.new (w.alloc (.map #[] 0)) 61 [.map (some w.heap.size), .int .i64 room]
  have hB : Blk ((w.alloc (.map #[] 0)).alloc (.cells #[.map (some w.heap.size), .int .i64 room] 61)) (w.heap.size + 1) 61 [.map (some w.heap.size), .int .i64 room] := by simpa using hB
  have hm2 := map_fr hm ((Fr.refl [] (w.alloc (.map #[] 0))).alloc (.cells #[.map (some w.heap.size), .int .i64 room] 61)) (by simp)
  go_enter Try.func12, Try.ntmps12
  go_wp2
  go_ret
  exact ⟨_, _, rfl, ⟨hB, hm2⟩, hF, by simp, Nat.le_refl _⟩
theorem new_none (room : Int) (h : room < 1) (w : World) : Calls Try.prog 12 #[.int .i64 room] w fun r w' => r = .returned (.pointer none) ∧ w' = w := by
  have h1 : decide (room < 1) = true := decide_eq_true h
  go_enter Try.func12, Try.ntmps12
  go_wp2
  go_ret
  exact ⟨rfl, rfl⟩
theorem len_nil (w : World) : Calls Try.prog 33 #[.pointer none] w fun r w' => r = .returned (.int .i64 0) ∧ w' = w := by
  go_enter Try.func33, Try.ntmps33
  go_wp2
  go_ret
  exact ⟨rfl, rfl⟩
theorem len_calls (h : MAt w p b room L) : Calls Try.prog 33 #[.pointer (some ⟨p, 0, none⟩)] w fun r w' => r = .returned (.int .i64 L.length) ∧ w' = w := by
  obtain ⟨h1, h2⟩ := h.cells
  have hl := h.map.len Try.underlying59 3
  rw [kv_len] at hl
  clear h
  go_enter Try.func33, Try.ntmps33
  go_wp2
  go_ret
  exact ⟨rfl, rfl⟩
end
end Go.Proofs.Ytbmejolmbfmdiaa
