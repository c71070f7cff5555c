import Derived.Test.YthnbdpcbagobhaaProg
import Derived.Test.YthnbdpcbagobhaaMapF
import Derived.Test.YthnbdpcbagobhaaWhP
namespace Go.Proofs.Ythnbdpcbagobhaa
open Go Go.RowKit Go.Proofs.MapL

abbrev IdOk (i : Int) : Prop := (Lit.int .i64 i).wf = true
abbrev TOk (t : Int) : Prop := 0 ≤ t ∧ t < 18446744073709551616
def eI (x : Int) : Lit := .int .i64 x
theorem eI_inj : Function.Injective eI := fun a b h => by unfold eI at h; simpa using h
theorem eI_lit (x : Int) : WideAt.IsKeyLit (eI x) := trivial
def vI (x : Int) : Value := .int .i64 x
def vU (x : Int) : Value := .int .u64 x
theorem kI : Maps.Keyed Try.prog 3 := Maps.int_keyed Try.underlying3
theorem key_i {x : Int} (h : IdOk x) : keyOf Try.prog 3 (.int .i64 x) = some (eI x) := Maps.keyOf_int_mk Try.underlying3 h
theorem zI (w : World) : (zeroValue 3).run Try.prog w = .ok (.int .i64 0) w := by kernel_rfl
theorem zU (w : World) : (zeroValue 23).run Try.prog w = .ok (.int .u64 0) w := by kernel_rfl
/-- Block p is a wheel: its row of spokes, block g; its map of places, block b; its spokes, blocks bs; turned up to tu; it has just these items. -/
structure WhAt (w : World) (p g b c : Nat) (bs : List Nat) (tu : Int) (X : List It) : Prop where
  blk : Blk w p 52 [.slice (some ⟨g, 0, none⟩) bs.length c, .int .u64 tu, .map (some b)]
  row : ∀ i (h : i < bs.length), w.cell? ⟨g, i, none⟩ = some (.map (some bs[i]))
  wh : mapIs eI vI Try.prog 3 w b (whereL tu bs.length X)
  sp : ∀ i (h : i < bs.length), mapIs eI vU Try.prog 3 w bs[i] (spokeL tu bs.length i X)
  nb : b ∉ bs
  nd : bs.Nodup
  n1 : 1 ≤ bs.length ∧ bs.length ≤ 256
  tu_ : TOk tu
  ids : Ids X
  ok : ∀ x ∈ X, IdOk x.i ∧ TOk x.t
section
variable {w w' : World} {p g b c : Nat} {bs : List Nat} {tu : Int} {X Y : List It} {S : List Nat}
theorem WhAt.glt (h : WhAt w p g b c bs tu X) : g < w.heap.size := by
  have h1 := h.row 0 h.n1.1
  rcases Nat.lt_or_ge g w.heap.size with h2 | h2
  · exact h2
  · simp [World.cell?, Array.getElem?_eq_none h2] at h1
theorem WhAt.fr (h : WhAt w p g b c bs tu X) (hf : Fr S w w') (hS : ∀ k ∈ p :: g :: b :: bs, k ∉ S) : WhAt w' p g b c bs tu X :=
  ⟨h.blk.fr hf (hS _ (by simp)), fun i hi => hf.cell (h.row i hi) (hS _ (by simp)), map_fr h.wh hf (hS _ (by simp)), fun i hi => map_fr (h.sp i hi) hf (hS _ (by simp)), h.nb, h.nd, h.n1, h.tu_, h.ids, h.ok⟩
theorem WhAt.fr0 (h : WhAt w p g b c bs tu X) (hf : Fr [] w w') : WhAt w' p g b c bs tu X := h.fr hf (by simp)
theorem WhAt.perm (h : WhAt w p g b c bs tu X) (hp : X.Perm Y) : WhAt w p g b c bs tu Y :=
  ⟨h.blk, h.row, h.wh.perm (where_perm hp), fun i hi => (h.sp i hi).perm (spoke_perm hp), h.nb, h.nd, h.n1, h.tu_, (hp.pairwise_iff (fun {a b} h => Ne.symm h)).1 h.ids, fun x hx => h.ok x (hp.mem_iff.2 hx)⟩
theorem kOf_lt (tu t : Int) {n : Nat} (hn : 1 ≤ n) : 0 ≤ kOf tu n t ∧ kOf tu n t < n := by
  unfold kOf; exact ⟨Int.emod_nonneg _ (by omega), Int.emod_lt_of_pos _ (by omega)⟩
theorem WhAt.len (h : WhAt w p g b c bs tu X) : (whereL tu bs.length X).length = X.length := by simp [whereL]
theorem len_nil (w : World) : Calls Try.prog 13 #[.pointer none] w fun r w' => r = .returned (.int .i64 0) ∧ w' = w := by
  go_enter Try.func13, Try.ntmps13
  go_wp2
  go_ret
  exact ⟨rfl, rfl⟩
theorem len_calls (h : WhAt w p g b c bs tu X) : Calls Try.prog 13 #[.pointer (some ⟨p, 0, none⟩)] w fun r w' => r = .returned (.int .i64 X.length) ∧ w' = w := by
  obtain ⟨h1, h2, h3, -⟩ := h.blk.cells3
  have hl := h.wh.len Try.underlying49 3
  rw [h.len] at hl
  clear h
  go_enter Try.func13, Try.ntmps13
  go_wp2
  go_ret
  exact ⟨rfl, rfl⟩
theorem at_nil (id : Int) (w : World) : Calls Try.prog 12 #[.pointer none, .int .i64 id] w fun r w' => r = .returned (.tuple #[.int .u64 0, .bool false]) ∧ w' = w := by
  go_enter Try.func12, Try.ntmps12
  go_wp2
  go_ret2
  exact ⟨rfl, rfl⟩
theorem spoke_calls (h : WhAt w p g b c bs tu X) {t : Int} (ht : TOk t) : Calls Try.prog 20 #[.pointer (some ⟨p, 0, none⟩), .int .u64 t] w fun r w' => r = .returned (.int .i64 (t % bs.length)) ∧ w' = w := by
  obtain ⟨h1, h2, h3, -⟩ := h.blk.cells3
  have hn := h.n1
  have m1 := Int.emod_nonneg t (b := bs.length) (by omega)
  have m2 := Int.emod_lt_of_pos t (b := bs.length) (by omega)
  clear h h3 h2
  generalize bs.length = n at h1 hn m1 m2 ⊢
  go_enter Try.func20, Try.ntmps20
  go_wp2
  go_ret
  exact ⟨by go_num, rfl⟩
def atV (X : List It) (id : Int) : Value := .tuple #[.int .u64 (((atI X id).map (·.t)).getD 0), .bool (atI X id).isSome]
theorem at_calls (h : WhAt w p g b c bs tu X) {id : Int} (hid : IdOk id) : Calls Try.prog 12 #[.pointer (some ⟨p, 0, none⟩), .int .i64 id] w fun r w' => r = .returned (atV X id) ∧ w' = w := by
  obtain ⟨h1, h2, h3, -⟩ := h.blk.cells3
  have hl := h.wh.look_ok kI Try.underlying49 (zI w) (key_i hid)
  rw [where_find] at hl
  obtain ⟨n, hn_⟩ : ∃ n, bs.length = n := ⟨_, rfl⟩
  have hn := h.n1
  unfold atV
  cases hX : atI X id with
  | none =>
    have hr := h.row 0 (by omega)
    have hm := (h.sp 0 (by omega)).look kI Try.underlying53 (zU w) (key_i hid)
    rw [spoke_find h.ids, hX] at hm
    rw [hX] at hl
    obtain ⟨bk, hbk⟩ : ∃ bk, bs[0] = bk := ⟨_, rfl⟩
    rw [hbk] at hr hm
    rw [hn_] at h1 hn
    clear h
    simp only [Option.map_none, Option.bind_none, Option.getD_none, Option.isSome_none] at hl hm ⊢
    go_enter Try.func12, Try.ntmps12
    go_wp2
    go_ret2
    exact ⟨rfl, rfl⟩
  | some x =>
    have hk := kOf_lt tu x.t (n := bs.length) hn.1
    obtain ⟨k, hke⟩ := Int.eq_ofNat_of_zero_le hk.1
    have hkl : k < bs.length := by omega
    have hr := h.row k hkl
    have hm := (h.sp k hkl).look kI Try.underlying53 (zU w) (key_i hid)
    rw [spoke_find h.ids, hX] at hm
    rw [hX] at hl
    obtain ⟨bk, hbk⟩ : ∃ bk, bs[k] = bk := ⟨_, rfl⟩
    simp only [Option.map_some, Option.bind_some, Option.getD_some, Option.isSome_some, hke, if_true, vI, vU] at hl hm ⊢
    rw [hbk] at hr hm
    rw [hn_] at h1 hkl
    clear h hk hke
    go_enter Try.func12, Try.ntmps12
    go_wp2
    go_ret2
    exact ⟨rfl, rfl⟩
end
end Go.Proofs.Ythnbdpcbagobhaa
