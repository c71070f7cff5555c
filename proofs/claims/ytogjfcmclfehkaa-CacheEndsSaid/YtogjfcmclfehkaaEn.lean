import Derived.Test.YtogjfcmclfehkaaProg
import Derived.Test.YtogjfcmclfehkaaKA
import Derived.DeepKeys4
namespace Go.Proofs.Ytogjfcmclfehkaa
open Go Go.RowKit Go.Proofs.MapL

/-- Still to be told. -/
def liveB (x now : Int) : Bool := decide (x > now)
theorem live_calls (x now : Int) (w : World) : Calls Try.prog 47 #[.int .u64 x, .int .u64 now] w fun e w' => e = .returned (.bool (liveB x now)) ∧ w' = w := by
  by_cases h : now < x
  · have h1 : decide (x > now) = true := decide_eq_true h
    go_enter Try.func47, Try.ntmps47
    go_wp2
    go_ret
    exact ⟨by simp [liveB, h], rfl⟩
  · have h1 : decide (x > now) = false := decide_eq_false h
    go_enter Try.func47, Try.ntmps47
    go_wp2
    go_ret
    exact ⟨by simp [liveB, h], rfl⟩
/-- A question. -/
structure Qn where
  name : ByteArray
  ty : Int
  cl : Int
  ok : name.size ≤ maxLen ∧ (0 ≤ ty ∧ ty < 65536) ∧ (0 ≤ cl ∧ cl < 65536)
deriving DecidableEq
def Qn.c (q : Qn) : List Value := [.string q.name, .int .u16 q.ty, .int .u16 q.cl]
def Qn.v (q : Qn) : Value := .agg #[.string q.name, .int .u16 q.ty, .int .u16 q.cl]
/-- An entry. -/
structure En where
  q : Qn
  ra : Option Addr
  rn : Nat
  rc : Nat
  rcode : Int
  rank : Int
  expire : Int
def En.c (e : En) : List Value := [.string e.q.name, .int .u16 e.q.ty, .int .u16 e.q.cl, .slice e.ra e.rn e.rc, .int .i64 e.rcode, .int .i64 e.rank, .int .u64 e.expire]
def En.v (e : En) : Value := .agg #[.string e.q.name, .int .u16 e.q.ty, .int .u16 e.q.cl, .slice e.ra e.rn e.rc, .int .i64 e.rcode, .int .i64 e.rank, .int .u64 e.expire]
def beatsB (o e : En) (now : Int) : Bool := !liveB o.expire now || decide (e.rank ≥ o.rank)
theorem beats_calls (o e : En) (now : Int) (w : World) : Calls Try.prog 49 #[o.v, e.v, .int .u64 now] w fun r w' => r = .returned (.bool (beatsB o e now)) ∧ Fr [] w w' := by
  unfold En.v beatsB
  have hb0 := ((Fr.refl [] w).alloc (.cells o.c.toArray 37)).alloc (.cells e.c.toArray 37)
  unfold En.c at hb0
  rcases hl : liveB o.expire now with _ | _
  · go_enter Try.func49, Try.ntmps49
    go_wp2_with fail
    refine (live_calls _ _ _).mono ?_
    rintro r w1 ⟨rfl, rfl⟩
    rw [hl]
    go_wp2
    go_ret
    exact ⟨rfl, hb0⟩
  · go_enter Try.func49, Try.ntmps49
    go_wp2_with fail
    refine (live_calls _ _ _).mono ?_
    rintro r w1 ⟨rfl, rfl⟩
    rw [hl]
    go_wp2
    go_ret
    exact ⟨by simp, hb0⟩
theorem laidOut : laidOutB Try.prog = true := by kernel_rfl
theorem kq : Maps.Keyed Try.prog 33 := Maps.Keyed.of_law (deep_law_laid laidOut (m := 2) (by omega) (of_decide_eq_true (by kernel_rfl)) (by kernel_rfl) (by kernel_rfl))
def Qn.lit (q : Qn) : Lit := .string (keyBytes [.string q.name.data.toList, .int .u16 q.ty, .int .u16 q.cl])
theorem key_lits (q : Qn) : Try.prog.keyLits (Try.prog.types.size + 1) 33 [.string q.name, .int .u16 q.ty, .int .u16 q.cl] = some [.string q.name.data.toList, .int .u16 q.ty, .int .u16 q.cl] := by
  obtain ⟨m, hm⟩ : ∃ m, Try.prog.types.size = m + 1 := ⟨Try.prog.types.size - 1, by
    have : 0 < Try.prog.types.size := of_decide_eq_true (by kernel_rfl)
    omega⟩
  rw [hm]
  have hq : Try.prog.cellsOf 33 = 3 := by kernel_rfl
  have h9 : Try.prog.cellsOf 9 = 1 := by kernel_rfl
  have h23 : Try.prog.cellsOf 31 = 1 := by kernel_rfl
  have hs : Try.prog.keyLits (m + 1) 9 [.string q.name] = some [.string q.name.data.toList] := by
    unfold Program.keyLits
    rw [Try.underlying9]
    dsimp only
    rw [if_pos q.ok.1]
  have hw : ∀ t : Int, 0 ≤ t ∧ t < 65536 → (Lit.int .u16 t).wf = true := by
    intro t ht
    simp [Lit.wf, IntKind.min, IntKind.max, IntKind.signed, IntKind.bits]
    omega
  have hi : ∀ t : Int, 0 ≤ t ∧ t < 65536 → Try.prog.keyLits (m + 1) 31 [.int .u16 t] = some [.int .u16 t] := by
    intro t ht
    unfold Program.keyLits
    rw [Try.underlying31]
    dsimp only
    rw [if_pos ⟨rfl, hw t ht⟩]
  unfold Program.keyLits
  rw [Try.underlying33]
  dsimp only
  rw [if_pos ⟨by rw [hq]; rfl, by decide +kernel⟩]
  simp only [List.mapM_cons, List.mapM_nil, h9, h23, List.drop_zero, List.drop_succ_cons, List.take_succ_cons, List.take_zero, hs, hi _ q.ok.2.1, hi _ q.ok.2.2]
  rfl
theorem key_q (q : Qn) : keyOf Try.prog 33 q.v = some q.lit := by
  unfold keyOf
  rw [Try.underlying33]
  dsimp only
  have h1 : Try.prog.keyType 33 = true := by kernel_rfl
  have h2 : q.v.formed Try.prog 33 = true := by
    have h4 : Try.prog.cellsOf 33 = 3 := by kernel_rfl
    unfold Qn.v Value.formed
    rw [Try.underlying33, h4]
    rfl
  rw [h1, h2]
  have h3 : q.v.cells.toList = [.string q.name, .int .u16 q.ty, .int .u16 q.cl] := rfl
  rw [h3, key_lits]
  rfl
theorem lit_inj : Function.Injective Qn.lit := by
  intro a b h
  have h1 := key_q a
  have h2 := key_q b
  rw [h] at h1
  have h3 := kq.inj h1 h2
  obtain ⟨n, t, c, hn⟩ := a
  obtain ⟨n', t', c', hn'⟩ := b
  simp only [Qn.v, Value.agg.injEq, Array.mk.injEq, List.cons.injEq, Value.string.injEq, Value.int.injEq, and_true, true_and] at h3
  obtain ⟨e1, e2, e3⟩ := h3
  subst e1 e2 e3
  rfl
theorem lit_key (q : Qn) : WideAt.IsKeyLit q.lit := trivial

theorem Blk.cells7 {w : World} {g T : Nat} {a b c d e f h : Value} (H : Blk w g T [a, b, c, d, e, f, h]) :
    w.cell? ⟨g, 0, none⟩ = some a ∧ w.cell? ⟨g, 1, none⟩ = some b ∧ w.cell? ⟨g, 2, none⟩ = some c ∧ w.cell? ⟨g, 3, none⟩ = some d ∧ w.cell? ⟨g, 4, none⟩ = some e ∧ w.cell? ⟨g, 5, none⟩ = some f ∧ w.cell? ⟨g, 6, none⟩ = some h ∧ (∀ j, w.frozen? ⟨g, j, none⟩ = false) :=
  ⟨H.cell rfl, H.cell rfl, H.cell rfl, H.cell rfl, H.cell rfl, H.cell rfl, H.cell rfl, fun j => H.free j⟩
theorem Blk.seven {w w2 : World} {g T : Nat} {a b c d e f h a' b' c' d' e' f' h' : Value} (H : Blk w g T [a, b, c, d, e, f, h])
    (hw : w2 = ((((((w.setCell ⟨g, 0, none⟩ a').setCell ⟨g, 1, none⟩ b').setCell ⟨g, 2, none⟩ c').setCell ⟨g, 3, none⟩ d').setCell ⟨g, 4, none⟩ e').setCell ⟨g, 5, none⟩ f').setCell ⟨g, 6, none⟩ h') : Blk w2 g T [a', b', c', d', e', f', h'] ∧ Fr [g] w w2 := by
  subst hw
  exact ⟨by simpa using ((((((H.set 0 a').set 1 b').set 2 c').set 3 d').set 4 e').set 5 f').set 6 h', (((((fr_set.trans fr_set).trans fr_set).trans fr_set).trans fr_set).trans fr_set).trans fr_set⟩
end Go.Proofs.Ytogjfcmclfehkaa
