import Derived.Test.YtjfhdffmlnkooaaR9
import Derived.Test.YtjfhdffmlnkooaaS14
namespace Go.Proofs.Ytjfhdffmlnkooaa
open Go Go.RowKit Go.Proofs.MapL PPM Go.Proofs.YtjfhdffmlnkooaaW.PrintWords

/-- A deed. -/
structure Dd where
  kind : Int
  e : En
  now : Int
def Dd.c (d : Dd) : List Value := [.int .i64 d.kind, .string d.e.q.name, .int .u16 d.e.q.ty, .int .u16 d.e.q.cl, .slice d.e.ra d.e.rn d.e.rc, .int .i64 d.e.rcode, .int .i64 d.e.rank, .int .u64 d.e.expire, .int .u64 d.now]
def Dd.v (d : Dd) : Value := .agg #[.int .i64 d.kind, .string d.e.q.name, .int .u16 d.e.q.ty, .int .u16 d.e.q.cl, .slice d.e.ra d.e.rn d.e.rc, .int .i64 d.e.rcode, .int .i64 d.e.rank, .int .u64 d.e.expire, .int .u64 d.now]
/-- A list of deeds that came in. -/
structure DeedsAt (w : World) (v : Value) (ds : List Dd) : Prop where
  le : ds.length ≤ 9223372036854775807
  rr : ∀ d ∈ ds, RdE w d.e ∧ TOk d.now
  at_ : ∃ A c, v = .slice A ds.length c ∧ (0 < ds.length → ∃ b off, A = some ⟨b, off, none⟩ ∧ b < w.heap.size ∧ ∀ i (h : i < ds.length) (j : Nat) (u : Value), (ds[i]).c[j]? = some u → w.cell? ⟨b, off + i * 9 + j, none⟩ = some u)
theorem DeedsAt.fr {w w' : World} {v : Value} {ds : List Dd} (h : DeedsAt w v ds) (hf : Fr [] w w') : DeedsAt w' v ds := by
  obtain ⟨A, c, e, h3⟩ := h.at_
  refine ⟨h.le, fun d hd => ⟨(h.rr d hd).1.fr hf, (h.rr d hd).2⟩, A, c, e, fun h0 => ?_⟩
  obtain ⟨b, off, e1, hb, hc⟩ := h3 h0
  refine ⟨b, off, e1, Nat.lt_of_lt_of_le hb hf.size, fun i hi j u hu => ?_⟩
  have h4 := hc i hi j u hu
  unfold World.cell? at h4 ⊢
  rw [hf.block b hb (by simp)]; exact h4
abbrev kD : Kd (Int × S29 × Int) := Kd.pair (Kd.int .i64) (Kd.pair k29 (Kd.int .u64))
theorem kD_open {w : World} {x : Int × S29 × Int} {cs : List Value} (h : kD.K w x cs) : ∃ A c, cs = [.int .i64 x.1, .string x.2.1.f0.f0, .int .u16 x.2.1.f0.f1, .int .u16 x.2.1.f0.f2, .slice A x.2.1.f1.length c, .int .i64 x.2.1.f2, .int .i64 x.2.1.f3, .int .u64 x.2.1.f4, .int .u64 x.2.2] ∧ x.2.1.f1.length ≤ c ∧ k81.C w A x.2.1.f1.length x.2.1.f1 := by
  obtain ⟨_, _, rfl, rfl, ⟨_, _, rfl, s0, rfl⟩⟩ := h
  obtain ⟨A, c, rfl, hl, hc⟩ := k29_open s0
  exact ⟨A, c, rfl, hl, hc⟩
abbrev DGood (x : Int × S29 × Int) : Prop := EGood x.2.1 ∧ TOk x.2.2
theorem opnD : Opn Try.prog 43 kD DGood := by
  have h : Opn Try.prog 43 kD _ := opn_struct Try.underlying43 (by kernel_rfl)
    (opnF_cons rfl (opn_int Try.underlying3 (by kernel_rfl)) (opnF_cons rfl opnE (opnF_one rfl (opn_int Try.underlying27 (by kernel_rfl)))))
  exact h.imp fun _ h => ⟨h.2.1, t_of h.2.2⟩
theorem dd_of {w : World} {x : Int × S29 × Int} {cs : List Value} (h : kD.K w x cs) (hg : DGood x) : ∃ d : Dd, cs = d.c ∧ RdE w d.e ∧ TOk d.now := by
  obtain ⟨A, c, rfl, hl, hc⟩ := kD_open h
  exact ⟨⟨x.1, ⟨⟨x.2.1.f0.f0, x.2.1.f0.f1, x.2.1.f0.f2, hg.1.1⟩, A, x.2.1.f1.length, c, x.2.1.f2, x.2.1.f3, x.2.1.f4⟩, x.2.2⟩, rfl, ⟨hg.1.2, x.2.1.f1, rfl, hl, hc⟩, hg.2⟩
theorem add_at {b off k : Nat} : (⟨b, off, none⟩ : Addr).add k = ⟨b, off + k, none⟩ := by unfold Addr.add; split <;> simp_all
theorem at_none {w : World} {a : Addr} {v : Value} (h : w.cell? (a.add 0) = some v) : a.spot = none := by
  have h0 : a.add 0 = a := by simp [Addr.add]
  rw [h0] at h
  unfold World.cell? at h
  cases hs : a.spot with
  | none => rfl
  | some x => split at h <;> simp [hs] at h
theorem deeds_of {w : World} {v : Value} {xs : List (Int × S29 × Int)} (h : (Kd.slice 43 kD).K w xs [v]) (hg : ∀ x ∈ xs, DGood x) : ∃ ds, DeedsAt w v ds := by
  obtain ⟨A, c, hv, hl, hlen, hmax, hc⟩ := h
  obtain rfl : v = .slice A xs.length c := by simpa using hv
  have hone : ∀ i, i < xs.length → ∃ d : Dd, (∀ ad, A = some ad → ∀ j u, d.c[j]? = some u → w.cell? (ad.add (i * 9 + j)) = some u) ∧ RdE w d.e ∧ TOk d.now := by
    intro i hi
    obtain ⟨ad, rfl, hc2⟩ := hc (by omega)
    obtain ⟨cs, hcl, hk, hcc⟩ := hc2 i _ (List.getElem?_eq_getElem hi)
    obtain ⟨d, rfl, hr⟩ := dd_of hk (hg _ (List.getElem_mem hi))
    refine ⟨d, fun ad' e j u hu => ?_, hr⟩
    obtain rfl : ad = ad' := by simpa using e
    exact hcc j u hu
  obtain ⟨ds, hdl, hp⟩ := list_of hone
  refine ⟨ds, by omega, ?_, A, c, by rw [hdl], fun h0 => ?_⟩
  · intro d hd
    obtain ⟨i, hi, rfl⟩ := List.getElem_of_mem hd
    exact (hp i hi).2
  · obtain ⟨ad, rfl, -⟩ := hc (by omega)
    have h1 := (hp 0 h0).1 ad rfl 0 _ rfl
    obtain ⟨b, off, spot⟩ := ad
    have hs := at_none (a := ⟨b, off, spot⟩) (by simpa using h1)
    dsimp only at hs
    subst hs
    refine ⟨b, off, rfl, ?_, fun i hi j u hu => ?_⟩
    · have := World.block_lt_of_cell? w _ h1
      simpa [add_at] using this
    · have h2 := (hp i hi).1 _ rfl j u hu
      rw [add_at] at h2
      rw [Nat.add_assoc]; exact h2
/-! ### Same and Asks of the same -/
theorem w64 {n : Nat} (h : n < 9223372036854775807) : wrap64 ((n : Int) + 1) = ((n + 1 : Nat) : Int) := by
  unfold wrap64; omega
theorem asks_l (l : List S25) (hl : l.length < 4611686018427387904) : ∀ (d i k : Nat), l.length - i = d → i ≤ l.length → d < k → derrickref12_Asks.l0 k l l (i : Int) = some true := by
  intro d
  induction d with
  | zero =>
    intro i k hd hi hk
    obtain ⟨k, rfl⟩ : ∃ m, k = m + 1 := ⟨k - 1, by omega⟩
    simp only [derrickref12_Asks.l0]
    rw [if_neg (by omega)]
  | succ d ih =>
    intro i k hd hi hk
    obtain ⟨k, rfl⟩ : ∃ m, k = m + 1 := ⟨k - 1, by omega⟩
    simp only [derrickref12_Asks.l0]
    rw [if_pos (by omega), if_pos (by omega), if_pos (by omega), if_neg (by simp), w64 (by omega)]
    exact ih (i + 1) k (by omega) (by omega) (by omega)
theorem asks_self (l : List S25) {k : Nat} (hl : l.length < k) (hk : k < 4611686018427387904) : derrickref12_Asks.f k l l = some true := by
  unfold derrickref12_Asks.f
  rw [if_pos rfl]
  exact asks_l l (by omega) l.length 0 k (by omega) (by omega) hl
theorem same_l (n : ByteArray) (t c : Int) (l : List S81) (x y z : Int) (hl : l.length ≤ 9223372036854775807) : ∀ (d i k : Nat), l.length - i = d → i ≤ l.length → d < k → derrickref12_Same.l0 k (i : Int) n t c l x y z n t c l x y z = some true := by
  intro d
  induction d with
  | zero =>
    intro i k hd hi hk
    obtain ⟨k, rfl⟩ : ∃ m, k = m + 1 := ⟨k - 1, by omega⟩
    simp only [derrickref12_Same.l0]
    rw [if_neg (by omega)]
  | succ d ih =>
    intro i k hd hi hk
    obtain ⟨k, rfl⟩ : ∃ m, k = m + 1 := ⟨k - 1, by omega⟩
    simp only [derrickref12_Same.l0]
    rw [if_pos (by omega), if_pos (by omega), if_pos (by omega), if_neg (by simp), w64 (by omega)]
    exact ih (i + 1) k (by omega) (by omega) (by omega)
theorem same_self (n : ByteArray) (t c : Int) (l : List S81) (x y z : Int) {k : Nat} (hl : l.length + 1 < k) (hk : l.length ≤ 9223372036854775807) : derrickref12_Same.f k n t c l x y z n t c l x y z = some true := by
  obtain ⟨k, rfl⟩ : ∃ m, k = m + 1 := ⟨k - 1, by omega⟩
  unfold derrickref12_Same.f
  rw [if_pos rfl, if_neg (by simp), if_pos rfl, if_pos rfl]
  simp only [derrickref12_Same.j0]
  rw [if_neg (by simp)]
  exact same_l n t c l x y z (by omega) l.length 0 k (by omega) (by omega) (by omega)
/-- An entry is the same as itself. -/
theorem same_calls {w : World} {e : En} (h : RdE w e) : Calls Try.prog 14 #[e.v, e.v] w fun r w' => r = .returned (.bool true) ∧ Fr [] w w' := by
  obtain ⟨l, h1, h2, h3⟩ := h.r
  have hc := derrickref12_Same.calls (l.length + 2) e.q.name e.q.ty e.q.cl e.ra e.rc l e.rcode e.rank e.expire e.q.name e.q.ty e.q.cl e.ra e.rc l e.rcode e.rank e.expire true w h3 h2 h3 h2 (same_self _ _ _ _ _ _ _ (by omega) h3.2.1)
  rw [← h1] at hc
  exact hc.mono fun _ _ h => ⟨h.1, fr_below h.2⟩
end Go.Proofs.Ytjfhdffmlnkooaa
namespace Go.Proofs.Ytjfhdffmlnkooaa
open Go Go.RowKit Go.Proofs.MapL PPM Go.Proofs.YtjfhdffmlnkooaaW.PrintWords

def Qn.s (q : Qn) : S25 := ⟨q.name, q.ty, q.cl⟩
/-- A row of questions, as the words have it. -/
theorem own_C {w : World} {base : Nat} {v : Value} {ks : List Qn} (h : QRow w base v ks) (hl : ks.length ≤ 9223372036854775807) : ∃ A c, v = .slice A (ks.map Qn.s).length c ∧ (ks.map Qn.s).length ≤ c ∧ Kd.C k25 w A (ks.map Qn.s).length (ks.map Qn.s) := by
  have h0 := h
  rcases h.2 with ⟨rfl, hn⟩ | ⟨g, cap, cur, rfl, -, hgg, hnc, -⟩
  · have : ks = [] := List.eq_nil_of_length_eq_zero hn
    subst this
    exact ⟨none, 0, rfl, Nat.le_refl _, Kd.C_nil _ _⟩
  · refine ⟨some ⟨g, 0, none⟩, cap, by simp, by simpa using hnc, by simp, by simpa using hl, fun _ => ⟨_, rfl, ?_⟩⟩
    intro j p hj
    rw [List.getElem?_map, Option.map_eq_some_iff] at hj
    obtain ⟨q, hq, rfl⟩ := hj
    obtain ⟨hjl, rfl⟩ := List.getElem?_eq_some_iff.1 hq
    refine ⟨(ks[j]).c, rfl, k25_mk w (ks[j]).s, ?_⟩
    intro i u hu
    have hi : i < 3 := (List.getElem?_eq_some_iff.1 hu).1
    have e : (⟨g, 0, none⟩ : Addr).add (j * k25.sz + i) = ⟨g, j * 3 + i, none⟩ := by
      show (⟨g, 0, none⟩ : Addr).add (j * 3 + i) = _
      unfold Addr.add; split <;> simp_all
    rw [e]
    have h1 := World.ownsRow.cellAt h0 (j * 3 + i) (by omega)
    have e3 : ∀ q : Qn, (Qn.c q).length = 3 := fun _ => rfl
    rw [h1, flat_get e3 _ _ _ hi, hq]
    exact hu
/-- Two rows of the same questions. -/
theorem asks_calls {w : World} {b1 b2 : Nat} {v1 v2 : Value} {ks : List Qn} (h1 : QRow w b1 v1 ks) (h2 : QRow w b2 v2 ks) (hl : ks.length < 1000000) : Calls Try.prog 20 #[v1, v2] w fun r w' => r = .returned (.bool true) ∧ Fr [] w w' := by
  obtain ⟨A1, c1, rfl, hc1, hr1⟩ := own_C h1 (by omega)
  obtain ⟨A2, c2, rfl, hc2, hr2⟩ := own_C h2 (by omega)
  exact (derrickref12_Asks.calls (ks.length + 1) A1 c1 _ A2 c2 _ true w hr1 hc1 hr2 hc2 (asks_self _ (by simp) (by omega))).mono fun _ _ h => ⟨h.1, fr_drawn h.2⟩
end Go.Proofs.Ytjfhdffmlnkooaa
namespace Go.Proofs.Ytjfhdffmlnkooaa
open Go Go.RowKit Go.Proofs.MapL PPM Go.Proofs.YtjfhdffmlnkooaaW.PrintWords

theorem own_is_blk {w : World} {base E size n g m c : Nat} {xs : List Value} (h : w.ownsRow base E size (.slice (some ⟨g, 0, none⟩) m c) n xs) : ∃ cs, Blk w g E cs := by
  rcases h.2 with ⟨h1, -⟩ | ⟨g', cap, cur, h1, -, hgg, -⟩
  · cases h1
  · cases h1
    exact ⟨cur.toList, by simpa [Blk] using hgg⟩
/-- Blocks of other types than the shard's are none of those that it writes. -/
theorem blk_apart {w : World} {B : ShB} {s : SS} (h : ShE w B s) {g T : Nat} {cs : List Value} (hb : Blk w g T cs) (h1 : T ≠ 101) (h2 : T ≠ 96) (h3 : T ≠ 107) : g ∉ B.wr := by
  obtain ⟨tu, h⟩ := h
  simp only [ShB.wr, List.mem_cons, not_or]
  refine ⟨fun e => ?_, fun e => ?_, fun e => ?_, fun e => ?_, fun e => ?_, fun e => ?_⟩
  · exact (h.w.sl.own.ne (e ▸ hb) (Ne.symm h1)) rfl
  · exact (h.w.sl.row.ne (e ▸ hb) (Ne.symm h2)) rfl
  · exact map_ne h.w.mp hb e.symm
  · exact (h.w.wh.blk.ne (e ▸ hb) (Ne.symm h3)) rfl
  · exact map_ne h.w.wh.wh hb e.symm
  · obtain ⟨i, hi, rfl⟩ := List.getElem_of_mem e
    exact map_ne (h.w.wh.sp i hi) hb rfl
theorem ref_apart {w : World} {B : ShB} {s t : SS} {gx cx gu cu gt ct : Nat} (h : ShE w B s) (hr : RefAt w gx cx gu cu gt ct t) : gx ∉ B.wr ∧ gu ∉ B.wr ∧ gt ∉ B.wr := by
  obtain ⟨c1, h1⟩ := own_is_blk hr.x
  obtain ⟨c2, h2⟩ := own_is_blk hr.u
  obtain ⟨c3, h3⟩ := own_is_blk hr.t
  exact ⟨blk_apart h h1 (by decide) (by decide) (by decide), blk_apart h h2 (by decide) (by decide) (by decide), blk_apart h h3 (by decide) (by decide) (by decide)⟩
/-- The shard's step leaves the reference's rows. -/
theorem ref_step {w w' : World} {B : ShB} {s t : SS} {gx cx gu cu gt ct : Nat} (h : ShE w B s) (hr : RefAt w gx cx gu cu gt ct t) (hf : Fr B.wr w w') : RefAt w' gx cx gu cu gt ct t := by
  obtain ⟨h1, h2, h3⟩ := ref_apart h hr
  exact hr.frs hf h1 h2 h3
end Go.Proofs.Ytjfhdffmlnkooaa
namespace Go.Proofs.Ytjfhdffmlnkooaa
open Go Go.RowKit Go.Proofs.MapL

/-- Every slot's entry has a property. -/
def EnAll (P : En → Prop) (s : SS) : Prop := ∀ (j : Nat) (a : Sl), s.l[j]? = some a → P a.x
section
variable {P : En → Prop} {s : SS}
theorem EnAll.at (h : EnAll P s) (k : Nat) {a : Sl} (ha : P a.x) : EnAll P (s.at k a) := by
  intro j b hb
  unfold SS.at at hb
  rw [List.getElem?_set] at hb
  split at hb
  · split at hb
    · cases hb; exact ha
    · cases hb
  · exact h j b hb
theorem EnAll.clr (hz : P zeroEn) : ∀ (l : List Nat) (s : SS), EnAll P s → EnAll P (clr s l) := by
  intro l
  induction l with
  | nil => intro s h; exact h
  | cons k l ih => intro s h; exact ih _ (h.at k hz)
theorem EnAll.due (hz : P zeroEn) (h : EnAll P s) (now : Int) : EnAll P (dueS s now) := EnAll.clr hz _ _ h
theorem EnAll.evict (hz : P zeroEn) (h : EnAll P s) (q : Qn) : EnAll P (evictS s q) := by
  unfold evictS
  split
  · exact h.at _ hz
  · exact h
theorem EnAll.look (hz : P zeroEn) (h : EnAll P s) (q : Qn) (now : Int) : EnAll P (lookR s q now).1 ∧ P (lookR s q now).2.1 := by
  unfold lookR
  split
  · exact ⟨h, hz⟩
  · split
    · exact ⟨h, hz⟩
    · rename_i hk
      split
      · have hp := h _ _ hk
        exact ⟨h.at _ hp, hp⟩
      · exact ⟨h, hz⟩
theorem EnAll.vic (hh : s.hand < s.l.length) (h : EnAll P s) : EnAll P s.victim.1 := by
  intro j a ha
  have hs := vic_same (2 * s.l.length) s hh
  obtain ⟨b, hb, hbx, -⟩ := same_get hs ha
  rw [← hbx]; exact h j b hb
theorem EnAll.room (hz : P zeroEn) (hh : s.hand < s.l.length) (h : EnAll P s) (now : Int) : EnAll P (roomS s now) := by
  unfold roomS
  split
  · exact h
  · split
    · exact h.due hz now
    · exact (h.vic hh).at _ hz
theorem EnAll.ins (hz : P zeroEn) (hh : s.hand < s.l.length) (h : EnAll P s) {e : En} (he : P e) (now : Int) : EnAll P (insR s e now).1 := by
  unfold insR
  split
  · split
    · split
      · split
        · exact h.at _ he
        · exact h
      · exact h
    · exact (h.room hz hh now).at _ he
  · exact h
/-- What a deed makes. -/
def doS (s : SS) (d : Dd) : SS :=
  if d.kind = 0 then (insR s d.e d.now).1 else if d.kind = 1 then (lookR s d.e.q d.now).1 else if d.kind = 2 then evictS s d.e.q else dueS s d.now
theorem EnAll.deed (hz : P zeroEn) (hh : s.hand < s.l.length) (h : EnAll P s) {d : Dd} (hd : P d.e) : EnAll P (doS s d) := by
  unfold doS
  split
  · exact h.ins hz hh hd _
  · split
    · exact (h.look hz _ _).1
    · split
      · exact h.evict hz _
      · exact h.due hz _
end
end Go.Proofs.Ytjfhdffmlnkooaa
namespace Go.Proofs.Ytjfhdffmlnkooaa
open Go Go.RowKit Go.Proofs.MapL PPM Go.Proofs.YtjfhdffmlnkooaaW.PrintWords

/-- Both sides behind deeds. -/
structure DoSt (w0 w : World) (B : ShB) (gx cx gu cu gt ct : Nat) (s : SS) : Prop where
  sh : ShE w B s
  rf : RefAt w gx cx gu cu gt ct s
  fr : Fr [] w0 w
  new : ∀ x ∈ B.all, w0.heap.size ≤ x
  en : EnAll (RdE w0) s
theorem DoSt.fr0 {w0 w w' : World} {B : ShB} {gx cx gu cu gt ct : Nat} {s : SS} (h : DoSt w0 w B gx cx gu cu gt ct s) (hf : Fr [] w w') : DoSt w0 w' B gx cx gu cu gt ct s :=
  ⟨h.sh.fr0 hf, h.rf.fr hf, h.fr.trans hf, h.new, h.en⟩
theorem fr_over {w0 w w' : World} {B : ShB} (h : Fr [] w0 w) (hn : ∀ x ∈ B.all, w0.heap.size ≤ x) (hf : Fr B.wr w w') : Fr [] w0 w' := h.weak hf fun x hx => .inr (hn x (B.wr_all x hx))
end Go.Proofs.Ytjfhdffmlnkooaa
