import Derived.Test.YtogjfcmclfehkaaPPc
import Derived.Test.YtogjfcmclfehkaaS14
import Derived.LoopN
import Derived.Laws.EntriesVeiled
namespace Go.Proofs.Ytogjfcmclfehkaa
open Go Go.RowKit Go.Proofs.MapL PPM Go.Proofs.YtogjfcmclfehkaaW.PrintWords

theorem w64n {n : Nat} (h : n < 9223372036854775807) : wrap64 ((n : Int) + 1) = ((n + 1 : Nat) : Int) := by unfold wrap64; omega
theorem put16_some (k : Nat) (hk : 3 ≤ k) (a : Int) : ∃ b, octet_Put16.f k a = some b ∧ b.size = 2 := by
  obtain ⟨k, rfl⟩ : ∃ m, k = m + 3 := ⟨k - 3, by omega⟩
  have a1 : wrap64 (0 + 1) = 1 := by unfold wrap64; omega
  have a2 : wrap64 (1 + 1) = 2 := by unfold wrap64; omega
  have a3 : wrap64 (8 * 0) = 0 := by unfold wrap64; omega
  have a4 : wrap64 (8 * 1) = 8 := by unfold wrap64; omega
  have a5 : wrap64 (2 - 1) = 1 := by unfold wrap64; omega
  have a6 : wrap64 (1 - 0) = 1 := by unfold wrap64; omega
  have a7 : wrap64 (1 - 1) = 0 := by unfold wrap64; omega
  have key : ∃ x y, octet_Put16.f (k + 3) a = some (strOfNums [x, y]) := by
    unfold octet_Put16.f octet_bytes.f
    simp only [octet_bytes.l0, a1, a2, a3, a4, a5, a6, a7]
    simp [List.replicate]
    exact ⟨_, _, rfl⟩
  obtain ⟨x, y, h⟩ := key
  exact ⟨_, h, by simp [strOfNums]; rfl⟩
theorem of_l (s : ByteArray) (hs : s.size < 9223372036854775807) : ∀ (d i k : Nat) (h : Int), s.size - i = d → i ≤ s.size → d < k → 0 ≤ h → ∃ r, hash_Of.l0 k s h (s.size : Int) (i : Int) = some r ∧ 0 ≤ r := by
  intro d
  induction d with
  | zero =>
    intro i k h hd hi hk h0
    obtain ⟨k, rfl⟩ : ∃ m, k = m + 1 := ⟨k - 1, by omega⟩
    simp only [hash_Of.l0]
    rw [if_neg (by omega)]
    exact ⟨h, rfl, h0⟩
  | succ d ih =>
    intro i k h hd hi hk h0
    obtain ⟨k, rfl⟩ : ∃ m, k = m + 1 := ⟨k - 1, by omega⟩
    simp only [hash_Of.l0]
    rw [if_pos (by omega), if_pos (by omega), if_pos (by omega), w64n (by omega)]
    exact ih (i + 1) k _ (by omega) (by omega) (by omega) (Int.emod_nonneg _ (by decide))
theorem hash_some (q : Qn) (hq : q.name.size ≤ 1000000000000000) (n : Nat) (h1 : 1 ≤ n) (h2 : n ≤ 16) : ∃ r : Nat, hash_Shard.f (q.name.size + 100) q.name q.ty q.cl n = some (r : Int) ∧ r < n := by
  obtain ⟨b1, e1, z1⟩ := put16_some (q.name.size + 100) (by omega) q.ty
  obtain ⟨b2, e2, z2⟩ := put16_some (q.name.size + 100) (by omega) q.cl
  have hk : hash_Key.f (q.name.size + 100) q.name q.ty q.cl = some (q.name ++ b1 ++ b2) := by
    unfold hash_Key.f
    rw [e1, e2]
    simp only [Option.bind_some]
    rw [if_pos (by omega), if_pos (by rw [ByteArray.size_append]; omega)]
  have hz : (q.name ++ b1 ++ b2).size = q.name.size + 4 := by rw [ByteArray.size_append, ByteArray.size_append]; omega
  obtain ⟨r, hr, h0⟩ := of_l (q.name ++ b1 ++ b2) (by omega) (q.name.size + 4) 0 (q.name.size + 100) 2166136261 (by omega) (by omega) (by omega) (by decide)
  have ho : hash_Of.f (q.name.size + 100) (q.name ++ b1 ++ b2) = some r := hr
  have hs : hash_shards.f (n : Int) = some true := by unfold hash_shards.f; rw [if_pos (by omega), decide_eq_true (by omega)]
  have hm : (n : Int) % 4294967296 = n := by omega
  refine ⟨(r.tmod n).toNat, ?_, ?_⟩
  · unfold hash_Shard.f
    rw [hs]
    simp only [Option.bind_some, if_true, hk, ho, hm]
    rw [if_neg (by omega)]
    have h5 := Int.tmod_nonneg (n : Int) h0
    have h6 := Int.tmod_lt_of_pos r (show (0 : Int) < n by omega)
    have h7 : wrap64 (r.tmod n) = ((r.tmod n).toNat : Int) := by unfold wrap64; omega
    rw [h7]
  · have h5 := Int.tmod_nonneg (n : Int) h0
    have h6 := Int.tmod_lt_of_pos r (show (0 : Int) < n by omega)
    omega
/-- In which of n shards a question stands. -/
def hashK (q : Qn) (n : Nat) : Nat := ((hash_Shard.f (q.name.size + 100) q.name q.ty q.cl n).getD 0).toNat
theorem hash_lt (q : Qn) (hq : q.name.size ≤ 1000000000000000) (n : Nat) (h1 : 1 ≤ n) (h2 : n ≤ 16) : hashK q n < n := by
  obtain ⟨r, hr, hl⟩ := hash_some q hq n h1 h2
  unfold hashK; rw [hr]; simpa using hl
theorem hash_calls (q : Qn) (hq : q.name.size ≤ 1000000000000000) (n : Nat) (h1 : 1 ≤ n) (h2 : n ≤ 16) (w : World) :
    Calls Try.prog 19 #[q.v, .int .i64 n] w fun r w' => r = .returned (.int .i64 (hashK q n)) ∧ Fr [] w w' := by
  obtain ⟨r, hr, hl⟩ := hash_some q hq n h1 h2
  have e : hashK q n = r := by unfold hashK; rw [hr]; simp
  rw [e]
  exact (hash_Shard.calls _ q.name q.ty q.cl n r w hr).mono fun _ _ h => ⟨h.1, fr_below h.2⟩
end Go.Proofs.Ytogjfcmclfehkaa
namespace Go.Proofs.Ytogjfcmclfehkaa
open Go Go.RowKit Go.Proofs.MapL PPM Go.Proofs.YtogjfcmclfehkaaW.PrintWords

/-- A deed. -/
structure Dd where
  kind : Int
  e : En
  now : Int
/-- A deed's cells. -/
def Dd.c (d : Dd) : List Value := [.int .i64 d.kind, .string d.e.q.name, .int .u16 d.e.q.ty, .int .u16 d.e.q.cl, .slice d.e.ra d.e.rn d.e.rc, .int .i64 d.e.rcode, .int .i64 d.e.rank, .int .u64 d.e.expire, .int .u64 d.now]
def Dd.v (d : Dd) : Value := .agg #[.int .i64 d.kind, .string d.e.q.name, .int .u16 d.e.q.ty, .int .u16 d.e.q.cl, .slice d.e.ra d.e.rn d.e.rc, .int .i64 d.e.rcode, .int .i64 d.e.rank, .int .u64 d.e.expire, .int .u64 d.now]
/-- An event's cells. -/
def evc (d : Dd) (i : Int) (told : En) (is : Bool) (err : Int) (gv : Value) : List Value := [.int .i64 d.kind, .string d.e.q.name, .int .u16 d.e.q.ty, .int .u16 d.e.q.cl, .slice d.e.ra d.e.rn d.e.rc, .int .i64 d.e.rcode, .int .i64 d.e.rank, .int .u64 d.e.expire, .int .u64 d.now, .int .i64 i, .string told.q.name, .int .u16 told.q.ty, .int .u16 told.q.cl, .slice told.ra told.rn told.rc, .int .i64 told.rcode, .int .i64 told.rank, .int .u64 told.expire, .bool is, .int .i64 err, gv]
/-- Only the blocks S, and x from its tenth cell on, may be otherwise. -/
structure FrE (x : Nat) (S : List Nat) (a b : World) : Prop where
  fr : Fr (x :: S) a b
  low : ∀ j, j < 10 → ∀ u, a.cell? ⟨x, j, none⟩ = some u → b.cell? ⟨x, j, none⟩ = some u
section
variable {x : Nat} {S : List Nat} {a b c : World}
theorem FrE.of (h : Fr [] a b) : FrE x S a b := ⟨h.mono (by simp), fun _ _ _ hu => h.cell hu (by simp)⟩
theorem FrE.ofS (h : Fr S a b) (hx : x ∉ S) : FrE x S a b := ⟨h.mono (fun _ hk => List.mem_cons_of_mem _ hk), fun _ _ _ hu => h.cell hu hx⟩
theorem FrE.trans (h : FrE x S a b) (k : FrE x S b c) : FrE x S a c := ⟨h.fr.trans k.fr, fun j hj u hu => k.low j hj u (h.low j hj u hu)⟩
theorem FrE.size (h : FrE x S a b) : a.heap.size ≤ b.heap.size := h.fr.size
theorem FrE.set {T : Nat} {cs : List Value} (h : Blk a x T cs) {j : Nat} (hj : 10 ≤ j) {v : Value} : FrE x S a (a.setCell ⟨x, j, none⟩ v) := by
  refine ⟨(fr_set (b := x)).mono (by simp), fun k hk u hu => ?_⟩
  have h2 := h.set j v
  have h3 : cs[k]? = some u := by
    have h4 : a.heap[x]? = some (Obj.cells cs.toArray T) := h
    simpa [World.cell?, h4] using hu
  exact h2.cell (by rw [List.getElem?_set_ne (by omega)]; exact h3)
end
theorem row_low {w w' : World} {base : Nat} {v : Value} {ks : List Qn} {S : List Nat} (h : QRow w base v ks) (hf : Fr S w w') (hS : ∀ k ∈ S, k < base) : QRow w' base v ks :=
  own_fr h hf fun k hk hx => by have := (h.lt k hk).1; have := hS k hx; omega
set_option maxRecDepth 100000 in
set_option maxHeartbeats 8000000 in
theorem pins_calls {w : World} {pp xe : Nat} {B : ShB} {s : SS} {wv : Value} {d : Dd} {i : Int} (hp : Blk w pp 63 [.pointer (some ⟨B.p, 0, none⟩), wv]) (hx : Blk w xe 47 (evc d i zeroEn false 0 (.slice none 0 0))) (hs : ShE w B s) (hxa : xe ∉ B.all) (hpa : pp ∉ B.all) (hpx : pp ≠ xe) (hte : TOk d.e.expire) (htn : TOk d.now) :
    Calls Try.prog 31 #[.pointer (some ⟨pp, 0, none⟩), .pointer (some ⟨xe, 0, none⟩)] w fun r w' => r = .returned (.tuple #[]) ∧ ShE w' B (insR s d.e d.now).1 ∧ (∃ gv, QRow w' w.heap.size gv (insR s d.e d.now).2.1 ∧ Blk w' xe 47 (evc d i zeroEn false (insR s d.e d.now).2.2 gv)) ∧ FrE xe B.wr w w' := by
  have HTE := Hd.mk hte
  have HTN := Hd.mk htn
  clear hte htn
  have HXN : Hd (xe ∉ B.wr) := Hd.mk fun h => hxa (B.wr_all _ h)
  have HPN : Hd (pp ∉ xe :: B.wr) := Hd.mk (by simp only [List.mem_cons, not_or]; exact ⟨hpx, fun h => hpa (B.wr_all _ h)⟩)
  have HXL : Hd (∀ k ∈ B.all, k ≠ xe) := Hd.mk fun k hk e => hxa (e ▸ hk)
  have HLO : Hd (∀ k ∈ xe :: B.wr, k < w.heap.size) := Hd.mk fun k hk => by
    rcases List.mem_cons.1 hk with rfl | h
    · exact hx.lt
    · exact hs.lt k (B.wr_all _ h)
  have HXS : Hd (xe < w.heap.size) := Hd.mk hx.lt
  have HX : Hd (Blk w.drew xe 47 [.int .i64 d.kind, .string d.e.q.name, .int .u16 d.e.q.ty, .int .u16 d.e.q.cl, .slice d.e.ra d.e.rn d.e.rc, .int .i64 d.e.rcode, .int .i64 d.e.rank, .int .u64 d.e.expire, .int .u64 d.now, .int .i64 i, .string zeroEn.q.name, .int .u16 zeroEn.q.ty, .int .u16 zeroEn.q.cl, .slice zeroEn.ra zeroEn.rn zeroEn.rc, .int .i64 zeroEn.rcode, .int .i64 zeroEn.rank, .int .u64 zeroEn.expire, .bool false, .int .i64 0, (.slice none 0 0)]) := Hd.mk hx
  have HP : Hd (Blk w.drew pp 63 [.pointer (some ⟨B.p, 0, none⟩), wv]) := Hd.mk hp
  have HSE := Hd.mk hs
  clear hx hp hs hxa hpa hpx
  go_enter Try.func31, Try.ntmps31
  refine wp_region_gs { R := FrE xe B.wr, R1 := Fr [], gs := [Is (.pointer (some ⟨xe, 0, none⟩)), Is (.pointer (some ⟨xe, 0, none⟩)), Is (.pointer (some ⟨pp, 0, none⟩)), Is (.pointer (some ⟨pp, 0, none⟩)), Is (.pointer (some ⟨pp, 0, none⟩)), Is (.pointer (some ⟨B.p, 0, none⟩)), Is (.pointer (some ⟨xe, 0, none⟩)), Is (.pointer (some ⟨xe, 0, none⟩)), Is (.pointer (some ⟨xe, 0, none⟩)), Is (.pointer (some ⟨xe, 1, none⟩)), Is (.agg #[.string d.e.q.name, .int .u16 d.e.q.ty, .int .u16 d.e.q.cl, .slice d.e.ra d.e.rn d.e.rc, .int .i64 d.e.rcode, .int .i64 d.e.rank, .int .u64 d.e.expire]), Is (.pointer (some ⟨xe, 0, none⟩)), Is (.pointer (some ⟨xe, 0, none⟩)), Is (.pointer (some ⟨xe, 0, none⟩)), Is (.pointer (some ⟨xe, 8, none⟩)), Is (.int .u64 d.now), (fun (v : Value) (w2 : World) => ∃ gv, v = .tuple #[gv, .int .i64 (insR s d.e d.now).2.2] ∧ QRow w2 w.heap.size gv (insR s d.e d.now).2.1), (fun (v : Value) (w2 : World) => ∃ gv, v = .tuple #[gv, .int .i64 (insR s d.e d.now).2.2] ∧ QRow w2 w.heap.size gv (insR s d.e d.now).2.1), (fun (v : Value) (w2 : World) => QRow w2 w.heap.size v (insR s d.e d.now).2.1), Is (.int .i64 (insR s d.e d.now).2.2), Is (.pointer (some ⟨xe, 0, none⟩)), Is (.pointer (some ⟨xe, 19, none⟩)), No, Is (.pointer (some ⟨xe, 0, none⟩)), Is (.pointer (some ⟨xe, 18, none⟩)), No], ds := [some 5, some 6, some 7, some 8, some 9, some 10, some 11, some 12, some 13, some 14, some 15, some 16, some 17, some 18, some 19, some 20, some 21, some 4, some 22, some 23, some 24, some 25, none, some 26, some 27, none], fl := [false, false, false, false, false, false, false, false, false, false, false, false, false, false, false, false, true, false, false, false, false, false, true, false, false, true], hs := [fun _ w2 => ShE w2 B s ∧ Blk w2 xe 47 [.int .i64 d.kind, .string d.e.q.name, .int .u16 d.e.q.ty, .int .u16 d.e.q.cl, .slice d.e.ra d.e.rn d.e.rc, .int .i64 d.e.rcode, .int .i64 d.e.rank, .int .u64 d.e.expire, .int .u64 d.now, .int .i64 i, .string zeroEn.q.name, .int .u16 zeroEn.q.ty, .int .u16 zeroEn.q.cl, .slice zeroEn.ra zeroEn.rn zeroEn.rc, .int .i64 zeroEn.rcode, .int .i64 zeroEn.rank, .int .u64 zeroEn.expire, .bool false, .int .i64 0, (.slice none 0 0)], fun _ w2 => ShE w2 B (insR s d.e d.now).1 ∧ Blk w2 xe 47 [.int .i64 d.kind, .string d.e.q.name, .int .u16 d.e.q.ty, .int .u16 d.e.q.cl, .slice d.e.ra d.e.rn d.e.rc, .int .i64 d.e.rcode, .int .i64 d.e.rank, .int .u64 d.e.expire, .int .u64 d.now, .int .i64 i, .string zeroEn.q.name, .int .u16 zeroEn.q.ty, .int .u16 zeroEn.q.cl, .slice zeroEn.ra zeroEn.rn zeroEn.rc, .int .i64 zeroEn.rcode, .int .i64 zeroEn.rank, .int .u64 zeroEn.expire, .bool false, .int .i64 0, (.slice none 0 0)], fun _ w2 => ShE w2 B (insR s d.e d.now).1 ∧ ∃ gv, QRow w2 w.heap.size gv (insR s d.e d.now).2.1 ∧ Blk w2 xe 47 [.int .i64 d.kind, .string d.e.q.name, .int .u16 d.e.q.ty, .int .u16 d.e.q.cl, .slice d.e.ra d.e.rn d.e.rc, .int .i64 d.e.rcode, .int .i64 d.e.rank, .int .u64 d.e.expire, .int .u64 d.now, .int .i64 i, .string zeroEn.q.name, .int .u16 zeroEn.q.ty, .int .u16 zeroEn.q.cl, .slice zeroEn.ra zeroEn.rn zeroEn.rc, .int .i64 zeroEn.rcode, .int .i64 zeroEn.rank, .int .u64 zeroEn.expire, .bool false, .int .i64 0, gv], fun _ w2 => ShE w2 B (insR s d.e d.now).1 ∧ ∃ gv, QRow w2 w.heap.size gv (insR s d.e d.now).2.1 ∧ Blk w2 xe 47 [.int .i64 d.kind, .string d.e.q.name, .int .u16 d.e.q.ty, .int .u16 d.e.q.cl, .slice d.e.ra d.e.rn d.e.rc, .int .i64 d.e.rcode, .int .i64 d.e.rank, .int .u64 d.e.expire, .int .u64 d.now, .int .i64 i, .string zeroEn.q.name, .int .u16 zeroEn.q.ty, .int .u16 zeroEn.q.cl, .slice zeroEn.ra zeroEn.rn zeroEn.rc, .int .i64 zeroEn.rcode, .int .i64 zeroEn.rank, .int .u64 zeroEn.expire, .bool false, .int .i64 (insR s d.e d.now).2.2, gv]], hd := [[], [], [], []] } [false, false, false, false, true, true, true, true, true, true, true, true, true, true, true, true, true, true, true, true, true, true, true, true, true, true, true, true] (by kernel_rfl) _ (by kernel_rfl) (by kernel_rfl) (by kernel_rfl) (by kernel_rfl) rfl [] (fun _ _ _ h1 h2 => h1.trans h2) (fun _ _ h => FrE.of h) (staI (staI (staI (staI (staI (staI (staI (staI (staI (staI (staI (staI (staI (staI (staI (staI (sta (fun v _ _ hf ⟨gv, h1, h2⟩ => ⟨gv, h1, row_low h2 hf.fr HLO.out⟩) (sta (fun v _ _ hf ⟨gv, h1, h2⟩ => ⟨gv, h1, row_low h2 hf.fr HLO.out⟩) (sta (fun v _ _ hf h => row_low h hf.fr HLO.out) (staI (staI (staI (staN (staI (staI (staN sta0)))))))))))))))))))))))))) (sth (fun _ _ _ hf h => ⟨h.1.fr0 hf, h.2.fr hf (by simp)⟩) (sth (fun _ _ _ hf h => ⟨h.1.fr0 hf, h.2.fr hf (by simp)⟩) (sth (fun _ _ _ hf ⟨h1, gv, h2, h3⟩ => ⟨h1.fr0 hf, gv, own_fr h2 hf (by simp), h3.fr hf (by simp)⟩) (sth (fun _ _ _ hf ⟨h1, gv, h2, h3⟩ => ⟨h1.fr0 hf, gv, own_fr h2 hf (by simp), h3.fr hf (by simp)⟩) sth0)))) (fun _ _ h => h.size) _ (FrE.of (Fr.refl _ _)) ⟨HSE.out.fr0 (Fr.drew (Fr.refl _ _)), HX.out.drew⟩ ?_ ?_
  · refine ⟨?_, ?_, ?_, ?_, ?_, ?_, ?_, ?_, ?_, ?_, ?_, ?_, ?_, ?_, ?_, ?_, ?_, ?_, ?_, ?_, ?_, ?_, ?_, ?_, ?_, ?_, trivial⟩
    · intro σ w' hR hd
      simp only [fill, Nat.reduceAdd, if_true, Bool.false_eq_true, if_false]
      clear hd
      go_wp2
      exact ⟨Fr.refl _ _, rfl⟩
    · intro σ w' hR hd
      simp only [fill, Nat.reduceAdd, if_true, Bool.false_eq_true, if_false]
      clear hd
      go_wp2
      exact ⟨Fr.refl _ _, rfl⟩
    · intro σ w' hR hd
      simp only [fill, Nat.reduceAdd, if_true, Bool.false_eq_true, if_false]
      clear hd
      go_wp2
      exact ⟨Fr.refl _ _, rfl⟩
    · intro σ w' hR hd
      simp only [fill, Nat.reduceAdd, if_true, Bool.false_eq_true, if_false]
      obtain h7 : σ 7 = _ := hd 2 (by decide)
      rw [h7]
      clear h7
      clear hd
      go_wp2
      exact ⟨Fr.refl _ _, rfl⟩
    · intro σ w' hR hd
      simp only [fill, Nat.reduceAdd, if_true, Bool.false_eq_true, if_false]
      obtain h8 : σ 8 = _ := hd 3 (by decide)
      rw [h8]
      clear h8
      clear hd
      go_wp2
      exact ⟨Fr.refl _ _, rfl⟩
    · intro σ w' hR hd
      simp only [fill, Nat.reduceAdd, if_true, Bool.false_eq_true, if_false]
      obtain h9 : σ 9 = _ := hd 4 (by decide)
      rw [h9]
      clear h9
      clear hd
      obtain ⟨p0, p1⟩ : w'.cell? ⟨pp, 0, none⟩ = some (.pointer (some ⟨B.p, 0, none⟩)) ∧ True := ⟨(HP.out.fr hR.fr HPN.out).cell rfl, trivial⟩
      go_wp2
      exact ⟨Fr.refl _ _, rfl⟩
    · intro σ w' hR hd
      simp only [fill, Nat.reduceAdd, if_true, Bool.false_eq_true, if_false]
      clear hd
      go_wp2
      exact ⟨Fr.refl _ _, rfl⟩
    · intro σ w' hR hd
      simp only [fill, Nat.reduceAdd, if_true, Bool.false_eq_true, if_false]
      obtain h11 : σ 11 = _ := hd 6 (by decide)
      rw [h11]
      clear h11
      clear hd
      go_wp2
      exact ⟨Fr.refl _ _, rfl⟩
    · intro σ w' hR hd
      simp only [fill, Nat.reduceAdd, if_true, Bool.false_eq_true, if_false]
      obtain h12 : σ 12 = _ := hd 7 (by decide)
      rw [h12]
      clear h12
      clear hd
      go_wp2
      exact ⟨Fr.refl _ _, rfl⟩
    · intro σ w' hR hd
      simp only [fill, Nat.reduceAdd, if_true, Bool.false_eq_true, if_false]
      obtain h13 : σ 13 = _ := hd 8 (by decide)
      rw [h13]
      clear h13
      clear hd
      go_wp2
      exact ⟨Fr.refl _ _, rfl⟩
    · intro σ w' hR hd
      simp only [fill, Nat.reduceAdd, if_true, Bool.false_eq_true, if_false]
      obtain h14 : σ 14 = _ := hd 9 (by decide)
      rw [h14]
      clear h14
      clear hd
      have c1 : w'.cell? ⟨xe, 1, none⟩ = some (.string d.e.q.name) := hR.low 1 (by omega) _ (HX.out.cell rfl)
      have c2 : w'.cell? ⟨xe, 2, none⟩ = some (.int .u16 d.e.q.ty) := hR.low 2 (by omega) _ (HX.out.cell rfl)
      have c3 : w'.cell? ⟨xe, 3, none⟩ = some (.int .u16 d.e.q.cl) := hR.low 3 (by omega) _ (HX.out.cell rfl)
      have c4 : w'.cell? ⟨xe, 4, none⟩ = some (.slice d.e.ra d.e.rn d.e.rc) := hR.low 4 (by omega) _ (HX.out.cell rfl)
      have c5 : w'.cell? ⟨xe, 5, none⟩ = some (.int .i64 d.e.rcode) := hR.low 5 (by omega) _ (HX.out.cell rfl)
      have c6 : w'.cell? ⟨xe, 6, none⟩ = some (.int .i64 d.e.rank) := hR.low 6 (by omega) _ (HX.out.cell rfl)
      have c7 : w'.cell? ⟨xe, 7, none⟩ = some (.int .u64 d.e.expire) := hR.low 7 (by omega) _ (HX.out.cell rfl)
      go_wp2
      exact ⟨Fr.refl _ _, rfl⟩
    · intro σ w' hR hd
      simp only [fill, Nat.reduceAdd, if_true, Bool.false_eq_true, if_false]
      clear hd
      go_wp2
      exact ⟨Fr.refl _ _, rfl⟩
    · intro σ w' hR hd
      simp only [fill, Nat.reduceAdd, if_true, Bool.false_eq_true, if_false]
      obtain h16 : σ 16 = _ := hd 11 (by decide)
      rw [h16]
      clear h16
      clear hd
      go_wp2
      exact ⟨Fr.refl _ _, rfl⟩
    · intro σ w' hR hd
      simp only [fill, Nat.reduceAdd, if_true, Bool.false_eq_true, if_false]
      obtain h17 : σ 17 = _ := hd 12 (by decide)
      rw [h17]
      clear h17
      clear hd
      go_wp2
      exact ⟨Fr.refl _ _, rfl⟩
    · intro σ w' hR hd
      simp only [fill, Nat.reduceAdd, if_true, Bool.false_eq_true, if_false]
      obtain h18 : σ 18 = _ := hd 13 (by decide)
      rw [h18]
      clear h18
      clear hd
      go_wp2
      exact ⟨Fr.refl _ _, rfl⟩
    · intro σ w' hR hd
      simp only [fill, Nat.reduceAdd, if_true, Bool.false_eq_true, if_false]
      obtain h19 : σ 19 = _ := hd 14 (by decide)
      rw [h19]
      clear h19
      clear hd
      have c8 : w'.cell? ⟨xe, 8, none⟩ = some (.int .u64 d.now) := hR.low 8 (by omega) _ (HX.out.cell rfl)
      go_wp2
      exact ⟨Fr.refl _ _, rfl⟩
    · intro σ w' hR hd hH
      simp only [fill, Nat.reduceAdd, if_true, Bool.false_eq_true, if_false]
      obtain h10 : σ 10 = _ := hd 5 (by decide)
      obtain h15 : σ 15 = _ := hd 10 (by decide)
      obtain h20 : σ 20 = _ := hd 15 (by decide)
      rw [h10, h15, h20]
      clear h10 h15 h20
      clear hd
      have hh : ShE w' B s ∧ Blk w' xe 47 [.int .i64 d.kind, .string d.e.q.name, .int .u16 d.e.q.ty, .int .u16 d.e.q.cl, .slice d.e.ra d.e.rn d.e.rc, .int .i64 d.e.rcode, .int .i64 d.e.rank, .int .u64 d.e.expire, .int .u64 d.now, .int .i64 i, .string zeroEn.q.name, .int .u16 zeroEn.q.ty, .int .u16 zeroEn.q.cl, .slice zeroEn.ra zeroEn.rn zeroEn.rc, .int .i64 zeroEn.rcode, .int .i64 zeroEn.rank, .int .u64 zeroEn.expire, .bool false, .int .i64 0, (.slice none 0 0)] := hH
      have HS := Hd.mk hh.1
      have HB := Hd.mk hh.2
      have HSZ : Hd (w.heap.size ≤ w'.heap.size) := Hd.mk hR.size
      clear hh hH
      go_wp2_with fail
      refine (shinsert_calls HS.out d.e HTE.out HTN.out).mono ?_
      rintro r w4 ⟨gv, rfl, hq4, -, hs4, hf4⟩
      have HQ4 := Hd.mk (own_base hq4 HSZ.out)
      have HS4 := Hd.mk hs4
      have HF4 := Hd.mk hf4
      clear hq4 hs4 hf4
      go_wp2
      exact ⟨FrE.ofS HF4.out HXN.out, ⟨gv, rfl, HQ4.out⟩, HS4.out, HB.out.fr HF4.out HXN.out⟩
    · intro σ w' hR hd
      simp only [fill, Nat.reduceAdd, if_true, Bool.false_eq_true, if_false]
      obtain ⟨gv, h21, hq21⟩ : (fun (v : Value) (w2 : World) => ∃ gv, v = .tuple #[gv, .int .i64 (insR s d.e d.now).2.2] ∧ QRow w2 w.heap.size gv (insR s d.e d.now).2.1) (σ 21) w' := hd 16 (by decide)
      clear hd
      go_wp2
      exact ⟨Fr.refl _ _, gv, rfl, hq21⟩
    · intro σ w' hR hd
      simp only [fill, Nat.reduceAdd, if_true, Bool.false_eq_true, if_false]
      obtain ⟨gv, h4, hq4⟩ : (fun (v : Value) (w2 : World) => ∃ gv, v = .tuple #[gv, .int .i64 (insR s d.e d.now).2.2] ∧ QRow w2 w.heap.size gv (insR s d.e d.now).2.1) (σ 4) w' := hd 17 (by decide)
      rw [h4]
      clear h4
      clear hd
      go_wp2
      exact ⟨Fr.refl _ _, hq4⟩
    · intro σ w' hR hd
      simp only [fill, Nat.reduceAdd, if_true, Bool.false_eq_true, if_false]
      obtain ⟨gv, h4, hq4⟩ : (fun (v : Value) (w2 : World) => ∃ gv, v = .tuple #[gv, .int .i64 (insR s d.e d.now).2.2] ∧ QRow w2 w.heap.size gv (insR s d.e d.now).2.1) (σ 4) w' := hd 17 (by decide)
      rw [h4]
      clear h4
      clear hd
      go_wp2
      exact ⟨Fr.refl _ _, rfl⟩
    · intro σ w' hR hd
      simp only [fill, Nat.reduceAdd, if_true, Bool.false_eq_true, if_false]
      obtain h5 : σ 5 = _ := hd 0 (by decide)
      rw [h5]
      clear h5
      clear hd
      go_wp2
      exact ⟨Fr.refl _ _, rfl⟩
    · intro σ w' hR hd
      simp only [fill, Nat.reduceAdd, if_true, Bool.false_eq_true, if_false]
      obtain h24 : σ 24 = _ := hd 20 (by decide)
      rw [h24]
      clear h24
      clear hd
      go_wp2
      exact ⟨Fr.refl _ _, rfl⟩
    · intro σ w' hR hd hH
      simp only [fill, Nat.reduceAdd, if_true, Bool.false_eq_true, if_false]
      obtain hq22 : (fun (v : Value) (w2 : World) => QRow w2 w.heap.size v (insR s d.e d.now).2.1) (σ 22) w' := hd 18 (by decide)
      obtain h25 : σ 25 = _ := hd 21 (by decide)
      rw [h25]
      clear h25
      clear hd
      have hh : ShE w' B (insR s d.e d.now).1 ∧ Blk w' xe 47 [.int .i64 d.kind, .string d.e.q.name, .int .u16 d.e.q.ty, .int .u16 d.e.q.cl, .slice d.e.ra d.e.rn d.e.rc, .int .i64 d.e.rcode, .int .i64 d.e.rank, .int .u64 d.e.expire, .int .u64 d.now, .int .i64 i, .string zeroEn.q.name, .int .u16 zeroEn.q.ty, .int .u16 zeroEn.q.cl, .slice zeroEn.ra zeroEn.rn zeroEn.rc, .int .i64 zeroEn.rcode, .int .i64 zeroEn.rank, .int .u64 zeroEn.expire, .bool false, .int .i64 0, (.slice none 0 0)] := hH
      have HS := Hd.mk hh.1
      have hbx := hh.2
      obtain ⟨Ag, cg, eg, -⟩ := own_any hq22
      rw [eg] at hq22 ⊢
      have HQ := Hd.mk hq22
      clear hh hH hq22 eg
      have x0 := hbx.cell (i := 19) rfl
      have xf := hbx.free 19
      go_wp2
      exact ⟨FrE.set hbx (by omega), trivial, HS.out.fr fr_set (fun k hk => by have := HXL.out k hk; simp; omega), _, row_low HQ.out fr_set (by simp; exact HXS.out), hbx.set 19 _⟩
    · intro σ w' hR hd
      simp only [fill, Nat.reduceAdd, if_true, Bool.false_eq_true, if_false]
      obtain h6 : σ 6 = _ := hd 1 (by decide)
      rw [h6]
      clear h6
      clear hd
      go_wp2
      exact ⟨Fr.refl _ _, rfl⟩
    · intro σ w' hR hd
      simp only [fill, Nat.reduceAdd, if_true, Bool.false_eq_true, if_false]
      obtain h26 : σ 26 = _ := hd 23 (by decide)
      rw [h26]
      clear h26
      clear hd
      go_wp2
      exact ⟨Fr.refl _ _, rfl⟩
    · intro σ w' hR hd hH
      simp only [fill, Nat.reduceAdd, if_true, Bool.false_eq_true, if_false]
      obtain h23 : σ 23 = _ := hd 19 (by decide)
      obtain h27 : σ 27 = _ := hd 24 (by decide)
      rw [h23, h27]
      clear h23 h27
      clear hd
      obtain ⟨hs, gv, hqg, hbx⟩ : ShE w' B (insR s d.e d.now).1 ∧ ∃ gv, QRow w' w.heap.size gv (insR s d.e d.now).2.1 ∧ Blk w' xe 47 [.int .i64 d.kind, .string d.e.q.name, .int .u16 d.e.q.ty, .int .u16 d.e.q.cl, .slice d.e.ra d.e.rn d.e.rc, .int .i64 d.e.rcode, .int .i64 d.e.rank, .int .u64 d.e.expire, .int .u64 d.now, .int .i64 i, .string zeroEn.q.name, .int .u16 zeroEn.q.ty, .int .u16 zeroEn.q.cl, .slice zeroEn.ra zeroEn.rn zeroEn.rc, .int .i64 zeroEn.rcode, .int .i64 zeroEn.rank, .int .u64 zeroEn.expire, .bool false, .int .i64 0, gv] := hH
      have HS := Hd.mk hs
      have HQ := Hd.mk hqg
      clear hs hqg
      have x0 := hbx.cell (i := 18) rfl
      have xf := hbx.free 18
      go_wp2
      exact ⟨FrE.set hbx (by omega), trivial, HS.out.fr fr_set (fun k hk => by have := HXL.out k hk; simp; omega), gv, row_low HQ.out fr_set (by simp; exact HXS.out), hbx.set 18 _⟩
  · intro σ w3 hR hG hH
    simp only [fill, Nat.reduceAdd, if_true, Bool.false_eq_true, if_false]
    clear hG
    obtain ⟨hs, gv, hqg, hbx⟩ : ShE w3 B (insR s d.e d.now).1 ∧ ∃ gv, QRow w3 w.heap.size gv (insR s d.e d.now).2.1 ∧ Blk w3 xe 47 (evc d i zeroEn false (insR s d.e d.now).2.2 gv) := hH
    have HRR : Hd (FrE xe B.wr w w3) := Hd.mk ((FrE.of (Fr.drew (Fr.refl _ _))).trans hR)
    have HS := Hd.mk hs
    have HQ := Hd.mk hqg
    have HB := Hd.mk hbx
    clear hR hs hqg hbx
    refine bodyPost_end (v := .tuple #[]) (by simp [results, Try.results31, go_sem]) rfl ⟨rfl, HS.out, ⟨gv, HQ.out, HB.out⟩, HRR.out⟩
end Go.Proofs.Ytogjfcmclfehkaa
namespace Go.Proofs.Ytogjfcmclfehkaa
open Go Go.RowKit Go.Proofs.MapL PPM Go.Proofs.YtogjfcmclfehkaaW.PrintWords

theorem FrE.stores {x : Nat} {S : List Nat} {T : Nat} : ∀ (vs : List Value) (off : Nat) (a : World) (cs : List Value), Blk a x T cs → 10 ≤ off → FrE x S a (stores a x off vs) := by
  intro vs
  induction vs with
  | nil => intro off a cs _ _; exact FrE.of (Fr.refl _ _)
  | cons v vs ih => intro off a cs h ho; exact (FrE.set h ho).trans (ih (off + 1) _ _ (h.set off v) (by omega))
def LookC (B : ShB) (s : SS) (q : Qn) (now : Int) (le : En) (lb : Bool) : Prop := ∀ w, ShE w B s →
    Calls Try.prog 41 #[.pointer (some ⟨B.p, 0, none⟩), q.v, .int .u64 now] w fun r w' => r = .returned (.tuple #[le.v, .bool lb]) ∧ ShE w' B (lookR s q now).1 ∧ Fr B.wr w w'
theorem lookC {B : ShB} {s : SS} {q : Qn} {now : Int} {le : En} {lb : Bool} (hle : (lookR s q now).2.1 = le) (hlb : (lookR s q now).2.2 = lb) : LookC B s q now le lb := by
  intro w h
  have := lookup_calls h q now
  rw [hle, hlb] at this
  exact this
def EvC (B : ShB) (s : SS) (q : Qn) (fb : Bool) : Prop := ∀ w, ShE w B s →
    Calls Try.prog 42 #[.pointer (some ⟨B.p, 0, none⟩), q.v] w fun r w' => r = .returned (.bool fb) ∧ ShE w' B (evictS s q) ∧ Fr B.wr w w'
theorem evC {B : ShB} {s : SS} {q : Qn} {fb : Bool} (hfb : (s.find q).isSome = fb) : EvC B s q fb := by
  intro w h
  have := evict_calls h q
  rw [hfb] at this
  exact this
set_option maxRecDepth 100000 in
set_option maxHeartbeats 8000000 in
theorem plook_calls {w : World} {pp xe : Nat} {B : ShB} {s : SS} {wv : Value} {d : Dd} {i : Int} (hp : Blk w pp 63 [.pointer (some ⟨B.p, 0, none⟩), wv]) (hx : Blk w xe 47 (evc d i zeroEn false 0 (.slice none 0 0))) (hs : ShE w B s) (hxa : xe ∉ B.all) (hpa : pp ∉ B.all) (hpx : pp ≠ xe) : Calls Try.prog 32 #[.pointer (some ⟨pp, 0, none⟩), .pointer (some ⟨xe, 0, none⟩)] w fun r w' => r = .returned (.tuple #[]) ∧ ShE w' B (lookR s d.e.q d.now).1 ∧ Blk w' xe 47 (evc d i (lookR s d.e.q d.now).2.1 (lookR s d.e.q d.now).2.2 0 (.slice none 0 0)) ∧ FrE xe B.wr w w' := by
  have HXN : Hd (xe ∉ B.wr) := Hd.mk fun h => hxa (B.wr_all _ h)
  have HPN : Hd (pp ∉ xe :: B.wr) := Hd.mk (by simp only [List.mem_cons, not_or]; exact ⟨hpx, fun h => hpa (B.wr_all _ h)⟩)
  have HXL : Hd (∀ k ∈ B.all, k ≠ xe) := Hd.mk fun k hk e => hxa (e ▸ hk)
  have HLO : Hd (∀ k ∈ xe :: B.wr, k < w.heap.size) := Hd.mk fun k hk => by
    rcases List.mem_cons.1 hk with rfl | h
    · exact hx.lt
    · exact hs.lt k (B.wr_all _ h)
  have HXS : Hd (xe < w.heap.size) := Hd.mk hx.lt
  have HX : Hd (Blk w.drew xe 47 [.int .i64 d.kind, .string d.e.q.name, .int .u16 d.e.q.ty, .int .u16 d.e.q.cl, .slice d.e.ra d.e.rn d.e.rc, .int .i64 d.e.rcode, .int .i64 d.e.rank, .int .u64 d.e.expire, .int .u64 d.now, .int .i64 i, .string zeroEn.q.name, .int .u16 zeroEn.q.ty, .int .u16 zeroEn.q.cl, .slice zeroEn.ra zeroEn.rn zeroEn.rc, .int .i64 zeroEn.rcode, .int .i64 zeroEn.rank, .int .u64 zeroEn.expire, .bool false, .int .i64 0, (.slice none 0 0)]) := Hd.mk hx
  have HP : Hd (Blk w.drew pp 63 [.pointer (some ⟨B.p, 0, none⟩), wv]) := Hd.mk hp
  have HSE := Hd.mk hs
  clear hx hp hs hxa hpa hpx
  obtain ⟨le, hle⟩ : ∃ n, (lookR s d.e.q d.now).2.1 = n := ⟨_, rfl⟩
  obtain ⟨lb, hlb⟩ : ∃ n, (lookR s d.e.q d.now).2.2 = n := ⟨_, rfl⟩
  have HLK := Hd.mk (lookC (B := B) hle hlb)
  rw [hle, hlb]
  clear hle hlb
  go_enter Try.func32, Try.ntmps32
  refine wp_region_gs { R := FrE xe B.wr, R1 := Fr [], gs := [Is (.pointer (some ⟨xe, 0, none⟩)), Is (.pointer (some ⟨xe, 0, none⟩)), Is (.pointer (some ⟨pp, 0, none⟩)), Is (.pointer (some ⟨pp, 0, none⟩)), Is (.pointer (some ⟨pp, 0, none⟩)), Is (.pointer (some ⟨B.p, 0, none⟩)), Is (.pointer (some ⟨xe, 0, none⟩)), Is (.pointer (some ⟨xe, 0, none⟩)), Is (.pointer (some ⟨xe, 0, none⟩)), Is (.pointer (some ⟨xe, 1, none⟩)), Is (.pointer (some ⟨xe, 1, none⟩)), Is (.agg #[.string d.e.q.name, .int .u16 d.e.q.ty, .int .u16 d.e.q.cl]), Is (.pointer (some ⟨xe, 0, none⟩)), Is (.pointer (some ⟨xe, 0, none⟩)), Is (.pointer (some ⟨xe, 0, none⟩)), Is (.pointer (some ⟨xe, 8, none⟩)), Is (.int .u64 d.now), Is (.tuple #[.agg #[.string le.q.name, .int .u16 le.q.ty, .int .u16 le.q.cl, .slice le.ra le.rn le.rc, .int .i64 le.rcode, .int .i64 le.rank, .int .u64 le.expire], .bool lb]), Is (.tuple #[.agg #[.string le.q.name, .int .u16 le.q.ty, .int .u16 le.q.cl, .slice le.ra le.rn le.rc, .int .i64 le.rcode, .int .i64 le.rank, .int .u64 le.expire], .bool lb]), Is (.agg #[.string le.q.name, .int .u16 le.q.ty, .int .u16 le.q.cl, .slice le.ra le.rn le.rc, .int .i64 le.rcode, .int .i64 le.rank, .int .u64 le.expire]), Is (.bool lb), Is (.pointer (some ⟨xe, 0, none⟩)), Is (.pointer (some ⟨xe, 10, none⟩)), No, Is (.pointer (some ⟨xe, 0, none⟩)), Is (.pointer (some ⟨xe, 17, none⟩)), No], ds := [some 5, some 6, some 7, some 8, some 9, some 10, some 11, some 12, some 13, some 14, some 15, some 16, some 17, some 18, some 19, some 20, some 21, some 22, some 4, some 23, some 24, some 25, some 26, none, some 27, some 28, none], fl := [false, false, false, false, false, false, false, false, false, false, false, false, false, false, false, false, false, true, false, false, false, false, false, true, false, false, true], hs := [fun _ w2 => ShE w2 B s ∧ Blk w2 xe 47 [.int .i64 d.kind, .string d.e.q.name, .int .u16 d.e.q.ty, .int .u16 d.e.q.cl, .slice d.e.ra d.e.rn d.e.rc, .int .i64 d.e.rcode, .int .i64 d.e.rank, .int .u64 d.e.expire, .int .u64 d.now, .int .i64 i, .string zeroEn.q.name, .int .u16 zeroEn.q.ty, .int .u16 zeroEn.q.cl, .slice zeroEn.ra zeroEn.rn zeroEn.rc, .int .i64 zeroEn.rcode, .int .i64 zeroEn.rank, .int .u64 zeroEn.expire, .bool false, .int .i64 0, (.slice none 0 0)], fun _ w2 => ShE w2 B (lookR s d.e.q d.now).1 ∧ Blk w2 xe 47 [.int .i64 d.kind, .string d.e.q.name, .int .u16 d.e.q.ty, .int .u16 d.e.q.cl, .slice d.e.ra d.e.rn d.e.rc, .int .i64 d.e.rcode, .int .i64 d.e.rank, .int .u64 d.e.expire, .int .u64 d.now, .int .i64 i, .string zeroEn.q.name, .int .u16 zeroEn.q.ty, .int .u16 zeroEn.q.cl, .slice zeroEn.ra zeroEn.rn zeroEn.rc, .int .i64 zeroEn.rcode, .int .i64 zeroEn.rank, .int .u64 zeroEn.expire, .bool false, .int .i64 0, (.slice none 0 0)], fun _ w2 => ShE w2 B (lookR s d.e.q d.now).1 ∧ Blk w2 xe 47 [.int .i64 d.kind, .string d.e.q.name, .int .u16 d.e.q.ty, .int .u16 d.e.q.cl, .slice d.e.ra d.e.rn d.e.rc, .int .i64 d.e.rcode, .int .i64 d.e.rank, .int .u64 d.e.expire, .int .u64 d.now, .int .i64 i, .string le.q.name, .int .u16 le.q.ty, .int .u16 le.q.cl, .slice le.ra le.rn le.rc, .int .i64 le.rcode, .int .i64 le.rank, .int .u64 le.expire, .bool false, .int .i64 0, (.slice none 0 0)], fun _ w2 => ShE w2 B (lookR s d.e.q d.now).1 ∧ Blk w2 xe 47 [.int .i64 d.kind, .string d.e.q.name, .int .u16 d.e.q.ty, .int .u16 d.e.q.cl, .slice d.e.ra d.e.rn d.e.rc, .int .i64 d.e.rcode, .int .i64 d.e.rank, .int .u64 d.e.expire, .int .u64 d.now, .int .i64 i, .string le.q.name, .int .u16 le.q.ty, .int .u16 le.q.cl, .slice le.ra le.rn le.rc, .int .i64 le.rcode, .int .i64 le.rank, .int .u64 le.expire, .bool lb, .int .i64 0, (.slice none 0 0)]], hd := [[], [], [], []] } [false, false, false, false, true, true, true, true, true, true, true, true, true, true, true, true, true, true, true, true, true, true, true, true, true, true, true, true, true] (by kernel_rfl) _ (by kernel_rfl) (by kernel_rfl) (by kernel_rfl) (by kernel_rfl) rfl [] (fun _ _ _ h1 h2 => h1.trans h2) (fun _ _ h => FrE.of h) (staI (staI (staI (staI (staI (staI (staI (staI (staI (staI (staI (staI (staI (staI (staI (staI (staI (staI (staI (staI (staI (staI (staI (staN (staI (staI (staN sta0))))))))))))))))))))))))))) (sth (fun _ _ _ hf h => ⟨h.1.fr0 hf, h.2.fr hf (by simp)⟩) (sth (fun _ _ _ hf h => ⟨h.1.fr0 hf, h.2.fr hf (by simp)⟩) (sth (fun _ _ _ hf h => ⟨h.1.fr0 hf, h.2.fr hf (by simp)⟩) (sth (fun _ _ _ hf h => ⟨h.1.fr0 hf, h.2.fr hf (by simp)⟩) sth0)))) (fun _ _ h => h.size) _ (FrE.of (Fr.refl _ _)) ⟨HSE.out.fr0 (Fr.drew (Fr.refl _ _)), HX.out.drew⟩ ?_ ?_
  · refine ⟨?_, ?_, ?_, ?_, ?_, ?_, ?_, ?_, ?_, ?_, ?_, ?_, ?_, ?_, ?_, ?_, ?_, ?_, ?_, ?_, ?_, ?_, ?_, ?_, ?_, ?_, ?_, trivial⟩
    · intro σ w' hR hd
      simp only [fill, Nat.reduceAdd, if_true, Bool.false_eq_true, if_false]
      clear hd
      go_wp2
      exact ⟨Fr.refl _ _, rfl⟩
    · intro σ w' hR hd
      simp only [fill, Nat.reduceAdd, if_true, Bool.false_eq_true, if_false]
      clear hd
      go_wp2
      exact ⟨Fr.refl _ _, rfl⟩
    · intro σ w' hR hd
      simp only [fill, Nat.reduceAdd, if_true, Bool.false_eq_true, if_false]
      clear hd
      go_wp2
      exact ⟨Fr.refl _ _, rfl⟩
    · intro σ w' hR hd
      simp only [fill, Nat.reduceAdd, if_true, Bool.false_eq_true, if_false]
      obtain h7 : σ 7 = _ := hd 2 (by decide)
      rw [h7]
      clear h7
      clear hd
      go_wp2
      exact ⟨Fr.refl _ _, rfl⟩
    · intro σ w' hR hd
      simp only [fill, Nat.reduceAdd, if_true, Bool.false_eq_true, if_false]
      obtain h8 : σ 8 = _ := hd 3 (by decide)
      rw [h8]
      clear h8
      clear hd
      go_wp2
      exact ⟨Fr.refl _ _, rfl⟩
    · intro σ w' hR hd
      simp only [fill, Nat.reduceAdd, if_true, Bool.false_eq_true, if_false]
      obtain h9 : σ 9 = _ := hd 4 (by decide)
      rw [h9]
      clear h9
      clear hd
      obtain ⟨p0, p1⟩ : w'.cell? ⟨pp, 0, none⟩ = some (.pointer (some ⟨B.p, 0, none⟩)) ∧ True := ⟨(HP.out.fr hR.fr HPN.out).cell rfl, trivial⟩
      go_wp2
      exact ⟨Fr.refl _ _, rfl⟩
    · intro σ w' hR hd
      simp only [fill, Nat.reduceAdd, if_true, Bool.false_eq_true, if_false]
      clear hd
      go_wp2
      exact ⟨Fr.refl _ _, rfl⟩
    · intro σ w' hR hd
      simp only [fill, Nat.reduceAdd, if_true, Bool.false_eq_true, if_false]
      obtain h11 : σ 11 = _ := hd 6 (by decide)
      rw [h11]
      clear h11
      clear hd
      go_wp2
      exact ⟨Fr.refl _ _, rfl⟩
    · intro σ w' hR hd
      simp only [fill, Nat.reduceAdd, if_true, Bool.false_eq_true, if_false]
      obtain h12 : σ 12 = _ := hd 7 (by decide)
      rw [h12]
      clear h12
      clear hd
      go_wp2
      exact ⟨Fr.refl _ _, rfl⟩
    · intro σ w' hR hd
      simp only [fill, Nat.reduceAdd, if_true, Bool.false_eq_true, if_false]
      obtain h13 : σ 13 = _ := hd 8 (by decide)
      rw [h13]
      clear h13
      clear hd
      go_wp2
      exact ⟨Fr.refl _ _, rfl⟩
    · intro σ w' hR hd
      simp only [fill, Nat.reduceAdd, if_true, Bool.false_eq_true, if_false]
      obtain h14 : σ 14 = _ := hd 9 (by decide)
      rw [h14]
      clear h14
      clear hd
      go_wp2
      exact ⟨Fr.refl _ _, rfl⟩
    · intro σ w' hR hd
      simp only [fill, Nat.reduceAdd, if_true, Bool.false_eq_true, if_false]
      obtain h15 : σ 15 = _ := hd 10 (by decide)
      rw [h15]
      clear h15
      clear hd
      have c1 : w'.cell? ⟨xe, 1, none⟩ = some (.string d.e.q.name) := hR.low 1 (by omega) _ (HX.out.cell rfl)
      have c2 : w'.cell? ⟨xe, 2, none⟩ = some (.int .u16 d.e.q.ty) := hR.low 2 (by omega) _ (HX.out.cell rfl)
      have c3 : w'.cell? ⟨xe, 3, none⟩ = some (.int .u16 d.e.q.cl) := hR.low 3 (by omega) _ (HX.out.cell rfl)
      go_wp2
      exact ⟨Fr.refl _ _, rfl⟩
    · intro σ w' hR hd
      simp only [fill, Nat.reduceAdd, if_true, Bool.false_eq_true, if_false]
      clear hd
      go_wp2
      exact ⟨Fr.refl _ _, rfl⟩
    · intro σ w' hR hd
      simp only [fill, Nat.reduceAdd, if_true, Bool.false_eq_true, if_false]
      obtain h17 : σ 17 = _ := hd 12 (by decide)
      rw [h17]
      clear h17
      clear hd
      go_wp2
      exact ⟨Fr.refl _ _, rfl⟩
    · intro σ w' hR hd
      simp only [fill, Nat.reduceAdd, if_true, Bool.false_eq_true, if_false]
      obtain h18 : σ 18 = _ := hd 13 (by decide)
      rw [h18]
      clear h18
      clear hd
      go_wp2
      exact ⟨Fr.refl _ _, rfl⟩
    · intro σ w' hR hd
      simp only [fill, Nat.reduceAdd, if_true, Bool.false_eq_true, if_false]
      obtain h19 : σ 19 = _ := hd 14 (by decide)
      rw [h19]
      clear h19
      clear hd
      go_wp2
      exact ⟨Fr.refl _ _, rfl⟩
    · intro σ w' hR hd
      simp only [fill, Nat.reduceAdd, if_true, Bool.false_eq_true, if_false]
      obtain h20 : σ 20 = _ := hd 15 (by decide)
      rw [h20]
      clear h20
      clear hd
      have c8 : w'.cell? ⟨xe, 8, none⟩ = some (.int .u64 d.now) := hR.low 8 (by omega) _ (HX.out.cell rfl)
      go_wp2
      exact ⟨Fr.refl _ _, rfl⟩
    · intro σ w' hR hd hH
      simp only [fill, Nat.reduceAdd, if_true, Bool.false_eq_true, if_false]
      obtain h10 : σ 10 = _ := hd 5 (by decide)
      obtain h16 : σ 16 = _ := hd 11 (by decide)
      obtain h21 : σ 21 = _ := hd 16 (by decide)
      rw [h10, h16, h21]
      clear h10 h16 h21
      clear hd
      have hh : ShE w' B s ∧ Blk w' xe 47 [.int .i64 d.kind, .string d.e.q.name, .int .u16 d.e.q.ty, .int .u16 d.e.q.cl, .slice d.e.ra d.e.rn d.e.rc, .int .i64 d.e.rcode, .int .i64 d.e.rank, .int .u64 d.e.expire, .int .u64 d.now, .int .i64 i, .string zeroEn.q.name, .int .u16 zeroEn.q.ty, .int .u16 zeroEn.q.cl, .slice zeroEn.ra zeroEn.rn zeroEn.rc, .int .i64 zeroEn.rcode, .int .i64 zeroEn.rank, .int .u64 zeroEn.expire, .bool false, .int .i64 0, (.slice none 0 0)] := hH
      have HS := Hd.mk hh.1
      have HB := Hd.mk hh.2
      have HSZ : Hd (w.heap.size ≤ w'.heap.size) := Hd.mk hR.size
      clear hh hH
      go_wp2_with fail
      refine (HLK.out _ HS.out).mono ?_
      rintro r w4 ⟨rfl, hs4, hf4⟩
      unfold En.v
      have HS4 := Hd.mk hs4
      have HF4 := Hd.mk hf4
      clear hs4 hf4
      go_wp2
      exact ⟨FrE.ofS HF4.out HXN.out, rfl, HS4.out, HB.out.fr HF4.out HXN.out⟩
    · intro σ w' hR hd
      simp only [fill, Nat.reduceAdd, if_true, Bool.false_eq_true, if_false]
      obtain h22 : σ 22 = _ := hd 17 (by decide)
      rw [h22]
      clear h22
      clear hd
      go_wp2
      exact ⟨Fr.refl _ _, rfl⟩
    · intro σ w' hR hd
      simp only [fill, Nat.reduceAdd, if_true, Bool.false_eq_true, if_false]
      obtain h4 : σ 4 = _ := hd 18 (by decide)
      rw [h4]
      clear h4
      clear hd
      go_wp2
      exact ⟨Fr.refl _ _, rfl⟩
    · intro σ w' hR hd
      simp only [fill, Nat.reduceAdd, if_true, Bool.false_eq_true, if_false]
      obtain h4 : σ 4 = _ := hd 18 (by decide)
      rw [h4]
      clear h4
      clear hd
      go_wp2
      exact ⟨Fr.refl _ _, rfl⟩
    · intro σ w' hR hd
      simp only [fill, Nat.reduceAdd, if_true, Bool.false_eq_true, if_false]
      obtain h5 : σ 5 = _ := hd 0 (by decide)
      rw [h5]
      clear h5
      clear hd
      go_wp2
      exact ⟨Fr.refl _ _, rfl⟩
    · intro σ w' hR hd
      simp only [fill, Nat.reduceAdd, if_true, Bool.false_eq_true, if_false]
      obtain h25 : σ 25 = _ := hd 21 (by decide)
      rw [h25]
      clear h25
      clear hd
      go_wp2
      exact ⟨Fr.refl _ _, rfl⟩
    · intro σ w' hR hd hH
      simp only [fill, Nat.reduceAdd, if_true, Bool.false_eq_true, if_false]
      obtain h23 : σ 23 = _ := hd 19 (by decide)
      obtain h26 : σ 26 = _ := hd 22 (by decide)
      rw [h23, h26]
      clear h23 h26
      clear hd
      have hh : ShE w' B (lookR s d.e.q d.now).1 ∧ Blk w' xe 47 [.int .i64 d.kind, .string d.e.q.name, .int .u16 d.e.q.ty, .int .u16 d.e.q.cl, .slice d.e.ra d.e.rn d.e.rc, .int .i64 d.e.rcode, .int .i64 d.e.rank, .int .u64 d.e.expire, .int .u64 d.now, .int .i64 i, .string zeroEn.q.name, .int .u16 zeroEn.q.ty, .int .u16 zeroEn.q.cl, .slice zeroEn.ra zeroEn.rn zeroEn.rc, .int .i64 zeroEn.rcode, .int .i64 zeroEn.rank, .int .u64 zeroEn.expire, .bool false, .int .i64 0, (.slice none 0 0)] := hH
      have HS := Hd.mk hh.1
      have hbx := hh.2
      clear hh hH
      obtain ⟨x10, x11, x12, x13, x14, x15, x16⟩ : w'.cell? ⟨xe, 10, none⟩ = some (.string zeroEn.q.name) ∧ w'.cell? ⟨xe, 11, none⟩ = some (.int .u16 zeroEn.q.ty) ∧ w'.cell? ⟨xe, 12, none⟩ = some (.int .u16 zeroEn.q.cl) ∧ w'.cell? ⟨xe, 13, none⟩ = some (.slice zeroEn.ra zeroEn.rn zeroEn.rc) ∧ w'.cell? ⟨xe, 14, none⟩ = some (.int .i64 zeroEn.rcode) ∧ w'.cell? ⟨xe, 15, none⟩ = some (.int .i64 zeroEn.rank) ∧ w'.cell? ⟨xe, 16, none⟩ = some (.int .u64 zeroEn.expire) := ⟨hbx.cell rfl, hbx.cell rfl, hbx.cell rfl, hbx.cell rfl, hbx.cell rfl, hbx.cell rfl, hbx.cell rfl⟩
      have xf : ∀ j, w'.frozen? ⟨xe, j, none⟩ = false := fun j => hbx.free j
      go_wp2
      exact ⟨FrE.stores [.string le.q.name, .int .u16 le.q.ty, .int .u16 le.q.cl, .slice le.ra le.rn le.rc, .int .i64 le.rcode, .int .i64 le.rank, .int .u64 le.expire] 10 _ _ hbx (by omega), trivial, HS.out.fr (fr_stores [.string le.q.name, .int .u16 le.q.ty, .int .u16 le.q.cl, .slice le.ra le.rn le.rc, .int .i64 le.rcode, .int .i64 le.rank, .int .u64 le.expire] 10 w') (fun k hk => by have := HXL.out k hk; simp; omega), blk_stores [.string le.q.name, .int .u16 le.q.ty, .int .u16 le.q.cl, .slice le.ra le.rn le.rc, .int .i64 le.rcode, .int .i64 le.rank, .int .u64 le.expire] 10 _ _ hbx⟩
    · intro σ w' hR hd
      simp only [fill, Nat.reduceAdd, if_true, Bool.false_eq_true, if_false]
      obtain h6 : σ 6 = _ := hd 1 (by decide)
      rw [h6]
      clear h6
      clear hd
      go_wp2
      exact ⟨Fr.refl _ _, rfl⟩
    · intro σ w' hR hd
      simp only [fill, Nat.reduceAdd, if_true, Bool.false_eq_true, if_false]
      obtain h27 : σ 27 = _ := hd 24 (by decide)
      rw [h27]
      clear h27
      clear hd
      go_wp2
      exact ⟨Fr.refl _ _, rfl⟩
    · intro σ w' hR hd hH
      simp only [fill, Nat.reduceAdd, if_true, Bool.false_eq_true, if_false]
      obtain h24 : σ 24 = _ := hd 20 (by decide)
      obtain h28 : σ 28 = _ := hd 25 (by decide)
      rw [h24, h28]
      clear h24 h28
      clear hd
      have hh : ShE w' B (lookR s d.e.q d.now).1 ∧ Blk w' xe 47 [.int .i64 d.kind, .string d.e.q.name, .int .u16 d.e.q.ty, .int .u16 d.e.q.cl, .slice d.e.ra d.e.rn d.e.rc, .int .i64 d.e.rcode, .int .i64 d.e.rank, .int .u64 d.e.expire, .int .u64 d.now, .int .i64 i, .string le.q.name, .int .u16 le.q.ty, .int .u16 le.q.cl, .slice le.ra le.rn le.rc, .int .i64 le.rcode, .int .i64 le.rank, .int .u64 le.expire, .bool false, .int .i64 0, (.slice none 0 0)] := hH
      have HS := Hd.mk hh.1
      have hbx := hh.2
      clear hh hH
      have x0 := hbx.cell (i := 17) rfl
      have xf := hbx.free 17
      go_wp2
      exact ⟨FrE.set hbx (by omega), trivial, HS.out.fr fr_set (fun k hk => by have := HXL.out k hk; simp; omega), hbx.set 17 _⟩
  · intro σ w3 hR hG hH
    simp only [fill, Nat.reduceAdd, if_true, Bool.false_eq_true, if_false]
    clear hG
    obtain ⟨hs, hbx⟩ : ShE w3 B (lookR s d.e.q d.now).1 ∧ Blk w3 xe 47 (evc d i le lb 0 (.slice none 0 0)) := hH
    have HRR : Hd (FrE xe B.wr w w3) := Hd.mk ((FrE.of (Fr.drew (Fr.refl _ _))).trans hR)
    have HS := Hd.mk hs
    have HB := Hd.mk hbx
    clear hR hs hbx
    refine bodyPost_end (v := .tuple #[]) (by simp [results, Try.results32, go_sem]) rfl ⟨rfl, HS.out, HB.out, HRR.out⟩
set_option maxRecDepth 100000 in
set_option maxHeartbeats 8000000 in
theorem padv_calls {w : World} {pp xe : Nat} {B : ShB} {s : SS} {wv : Value} {d : Dd} {i : Int} (hp : Blk w pp 63 [.pointer (some ⟨B.p, 0, none⟩), wv]) (hx : Blk w xe 47 (evc d i zeroEn false 0 (.slice none 0 0))) (hs : ShE w B s) (hxa : xe ∉ B.all) (hpa : pp ∉ B.all) (hpx : pp ≠ xe) (htn : TOk d.now) : Calls Try.prog 34 #[.pointer (some ⟨pp, 0, none⟩), .pointer (some ⟨xe, 0, none⟩)] w fun r w' => r = .returned (.tuple #[]) ∧ ShE w' B (dueS s d.now) ∧ (∃ gv, QRow w' w.heap.size gv (dueQ s d.now) ∧ Blk w' xe 47 (evc d i zeroEn false 0 gv)) ∧ FrE xe B.wr w w' := by
  have HTN := Hd.mk htn
  clear htn
  have HXN : Hd (xe ∉ B.wr) := Hd.mk fun h => hxa (B.wr_all _ h)
  have HPN : Hd (pp ∉ xe :: B.wr) := Hd.mk (by simp only [List.mem_cons, not_or]; exact ⟨hpx, fun h => hpa (B.wr_all _ h)⟩)
  have HXL : Hd (∀ k ∈ B.all, k ≠ xe) := Hd.mk fun k hk e => hxa (e ▸ hk)
  have HLO : Hd (∀ k ∈ xe :: B.wr, k < w.heap.size) := Hd.mk fun k hk => by
    rcases List.mem_cons.1 hk with rfl | h
    · exact hx.lt
    · exact hs.lt k (B.wr_all _ h)
  have HXS : Hd (xe < w.heap.size) := Hd.mk hx.lt
  have HX : Hd (Blk w.drew xe 47 [.int .i64 d.kind, .string d.e.q.name, .int .u16 d.e.q.ty, .int .u16 d.e.q.cl, .slice d.e.ra d.e.rn d.e.rc, .int .i64 d.e.rcode, .int .i64 d.e.rank, .int .u64 d.e.expire, .int .u64 d.now, .int .i64 i, .string zeroEn.q.name, .int .u16 zeroEn.q.ty, .int .u16 zeroEn.q.cl, .slice zeroEn.ra zeroEn.rn zeroEn.rc, .int .i64 zeroEn.rcode, .int .i64 zeroEn.rank, .int .u64 zeroEn.expire, .bool false, .int .i64 0, (.slice none 0 0)]) := Hd.mk hx
  have HP : Hd (Blk w.drew pp 63 [.pointer (some ⟨B.p, 0, none⟩), wv]) := Hd.mk hp
  have HSE := Hd.mk hs
  clear hx hp hs hxa hpa hpx
  go_enter Try.func34, Try.ntmps34
  refine wp_region_gs { R := FrE xe B.wr, R1 := Fr [], gs := [Is (.pointer (some ⟨xe, 0, none⟩)), Is (.pointer (some ⟨pp, 0, none⟩)), Is (.pointer (some ⟨pp, 0, none⟩)), Is (.pointer (some ⟨pp, 0, none⟩)), Is (.pointer (some ⟨B.p, 0, none⟩)), Is (.pointer (some ⟨xe, 0, none⟩)), Is (.pointer (some ⟨xe, 0, none⟩)), Is (.pointer (some ⟨xe, 0, none⟩)), Is (.pointer (some ⟨xe, 8, none⟩)), Is (.int .u64 d.now), (fun (v : Value) (w2 : World) => QRow w2 w.heap.size v (dueQ s d.now)), Is (.pointer (some ⟨xe, 0, none⟩)), Is (.pointer (some ⟨xe, 19, none⟩)), No], ds := [some 4, some 5, some 6, some 7, some 8, some 9, some 10, some 11, some 12, some 13, some 14, some 15, some 16, none], fl := [false, false, false, false, false, false, false, false, false, false, true, false, false, true], hs := [fun _ w2 => ShE w2 B s ∧ Blk w2 xe 47 [.int .i64 d.kind, .string d.e.q.name, .int .u16 d.e.q.ty, .int .u16 d.e.q.cl, .slice d.e.ra d.e.rn d.e.rc, .int .i64 d.e.rcode, .int .i64 d.e.rank, .int .u64 d.e.expire, .int .u64 d.now, .int .i64 i, .string zeroEn.q.name, .int .u16 zeroEn.q.ty, .int .u16 zeroEn.q.cl, .slice zeroEn.ra zeroEn.rn zeroEn.rc, .int .i64 zeroEn.rcode, .int .i64 zeroEn.rank, .int .u64 zeroEn.expire, .bool false, .int .i64 0, (.slice none 0 0)], fun _ w2 => ShE w2 B (dueS s d.now) ∧ Blk w2 xe 47 [.int .i64 d.kind, .string d.e.q.name, .int .u16 d.e.q.ty, .int .u16 d.e.q.cl, .slice d.e.ra d.e.rn d.e.rc, .int .i64 d.e.rcode, .int .i64 d.e.rank, .int .u64 d.e.expire, .int .u64 d.now, .int .i64 i, .string zeroEn.q.name, .int .u16 zeroEn.q.ty, .int .u16 zeroEn.q.cl, .slice zeroEn.ra zeroEn.rn zeroEn.rc, .int .i64 zeroEn.rcode, .int .i64 zeroEn.rank, .int .u64 zeroEn.expire, .bool false, .int .i64 0, (.slice none 0 0)], fun _ w2 => ShE w2 B (dueS s d.now) ∧ ∃ gv, QRow w2 w.heap.size gv (dueQ s d.now) ∧ Blk w2 xe 47 [.int .i64 d.kind, .string d.e.q.name, .int .u16 d.e.q.ty, .int .u16 d.e.q.cl, .slice d.e.ra d.e.rn d.e.rc, .int .i64 d.e.rcode, .int .i64 d.e.rank, .int .u64 d.e.expire, .int .u64 d.now, .int .i64 i, .string zeroEn.q.name, .int .u16 zeroEn.q.ty, .int .u16 zeroEn.q.cl, .slice zeroEn.ra zeroEn.rn zeroEn.rc, .int .i64 zeroEn.rcode, .int .i64 zeroEn.rank, .int .u64 zeroEn.expire, .bool false, .int .i64 0, gv]], hd := [[], [], []] } [false, false, false, false, true, true, true, true, true, true, true, true, true, true, true, true, true] (by kernel_rfl) _ (by kernel_rfl) (by kernel_rfl) (by kernel_rfl) (by kernel_rfl) rfl [] (fun _ _ _ h1 h2 => h1.trans h2) (fun _ _ h => FrE.of h) (staI (staI (staI (staI (staI (staI (staI (staI (staI (staI (sta (fun v _ _ hf h => row_low h hf.fr HLO.out) (staI (staI (staN sta0)))))))))))))) (sth (fun _ _ _ hf h => ⟨h.1.fr0 hf, h.2.fr hf (by simp)⟩) (sth (fun _ _ _ hf h => ⟨h.1.fr0 hf, h.2.fr hf (by simp)⟩) (sth (fun _ _ _ hf ⟨h1, gv, h2, h3⟩ => ⟨h1.fr0 hf, gv, own_fr h2 hf (by simp), h3.fr hf (by simp)⟩) sth0))) (fun _ _ h => h.size) _ (FrE.of (Fr.refl _ _)) ⟨HSE.out.fr0 (Fr.drew (Fr.refl _ _)), HX.out.drew⟩ ?_ ?_
  · refine ⟨?_, ?_, ?_, ?_, ?_, ?_, ?_, ?_, ?_, ?_, ?_, ?_, ?_, ?_, trivial⟩
    · intro σ w' hR hd
      simp only [fill, Nat.reduceAdd, if_true, Bool.false_eq_true, if_false]
      clear hd
      go_wp2
      exact ⟨Fr.refl _ _, rfl⟩
    · intro σ w' hR hd
      simp only [fill, Nat.reduceAdd, if_true, Bool.false_eq_true, if_false]
      clear hd
      go_wp2
      exact ⟨Fr.refl _ _, rfl⟩
    · intro σ w' hR hd
      simp only [fill, Nat.reduceAdd, if_true, Bool.false_eq_true, if_false]
      obtain h5 : σ 5 = _ := hd 1 (by decide)
      rw [h5]
      clear h5
      clear hd
      go_wp2
      exact ⟨Fr.refl _ _, rfl⟩
    · intro σ w' hR hd
      simp only [fill, Nat.reduceAdd, if_true, Bool.false_eq_true, if_false]
      obtain h6 : σ 6 = _ := hd 2 (by decide)
      rw [h6]
      clear h6
      clear hd
      go_wp2
      exact ⟨Fr.refl _ _, rfl⟩
    · intro σ w' hR hd
      simp only [fill, Nat.reduceAdd, if_true, Bool.false_eq_true, if_false]
      obtain h7 : σ 7 = _ := hd 3 (by decide)
      rw [h7]
      clear h7
      clear hd
      obtain ⟨p0, p1⟩ : w'.cell? ⟨pp, 0, none⟩ = some (.pointer (some ⟨B.p, 0, none⟩)) ∧ True := ⟨(HP.out.fr hR.fr HPN.out).cell rfl, trivial⟩
      go_wp2
      exact ⟨Fr.refl _ _, rfl⟩
    · intro σ w' hR hd
      simp only [fill, Nat.reduceAdd, if_true, Bool.false_eq_true, if_false]
      clear hd
      go_wp2
      exact ⟨Fr.refl _ _, rfl⟩
    · intro σ w' hR hd
      simp only [fill, Nat.reduceAdd, if_true, Bool.false_eq_true, if_false]
      obtain h9 : σ 9 = _ := hd 5 (by decide)
      rw [h9]
      clear h9
      clear hd
      go_wp2
      exact ⟨Fr.refl _ _, rfl⟩
    · intro σ w' hR hd
      simp only [fill, Nat.reduceAdd, if_true, Bool.false_eq_true, if_false]
      obtain h10 : σ 10 = _ := hd 6 (by decide)
      rw [h10]
      clear h10
      clear hd
      go_wp2
      exact ⟨Fr.refl _ _, rfl⟩
    · intro σ w' hR hd
      simp only [fill, Nat.reduceAdd, if_true, Bool.false_eq_true, if_false]
      obtain h11 : σ 11 = _ := hd 7 (by decide)
      rw [h11]
      clear h11
      clear hd
      go_wp2
      exact ⟨Fr.refl _ _, rfl⟩
    · intro σ w' hR hd
      simp only [fill, Nat.reduceAdd, if_true, Bool.false_eq_true, if_false]
      obtain h12 : σ 12 = _ := hd 8 (by decide)
      rw [h12]
      clear h12
      clear hd
      have c8 : w'.cell? ⟨xe, 8, none⟩ = some (.int .u64 d.now) := hR.low 8 (by omega) _ (HX.out.cell rfl)
      go_wp2
      exact ⟨Fr.refl _ _, rfl⟩
    · intro σ w' hR hd hH
      simp only [fill, Nat.reduceAdd, if_true, Bool.false_eq_true, if_false]
      obtain h8 : σ 8 = _ := hd 4 (by decide)
      obtain h13 : σ 13 = _ := hd 9 (by decide)
      rw [h8, h13]
      clear h8 h13
      clear hd
      have hh : ShE w' B s ∧ Blk w' xe 47 [.int .i64 d.kind, .string d.e.q.name, .int .u16 d.e.q.ty, .int .u16 d.e.q.cl, .slice d.e.ra d.e.rn d.e.rc, .int .i64 d.e.rcode, .int .i64 d.e.rank, .int .u64 d.e.expire, .int .u64 d.now, .int .i64 i, .string zeroEn.q.name, .int .u16 zeroEn.q.ty, .int .u16 zeroEn.q.cl, .slice zeroEn.ra zeroEn.rn zeroEn.rc, .int .i64 zeroEn.rcode, .int .i64 zeroEn.rank, .int .u64 zeroEn.expire, .bool false, .int .i64 0, (.slice none 0 0)] := hH
      have HS := Hd.mk hh.1
      have HB := Hd.mk hh.2
      have HSZ : Hd (w.heap.size ≤ w'.heap.size) := Hd.mk hR.size
      clear hh hH
      go_wp2_with fail
      refine (advance_calls HS.out HTN.out).mono ?_
      rintro r w4 ⟨gv, rfl, hq4, -, hs4, hf4⟩
      have HQ4 := Hd.mk (own_base hq4 HSZ.out)
      have HS4 := Hd.mk hs4
      have HF4 := Hd.mk hf4
      clear hq4 hs4 hf4
      go_wp2
      exact ⟨FrE.ofS HF4.out HXN.out, HQ4.out, HS4.out, HB.out.fr HF4.out HXN.out⟩
    · intro σ w' hR hd
      simp only [fill, Nat.reduceAdd, if_true, Bool.false_eq_true, if_false]
      obtain h4 : σ 4 = _ := hd 0 (by decide)
      rw [h4]
      clear h4
      clear hd
      go_wp2
      exact ⟨Fr.refl _ _, rfl⟩
    · intro σ w' hR hd
      simp only [fill, Nat.reduceAdd, if_true, Bool.false_eq_true, if_false]
      obtain h15 : σ 15 = _ := hd 11 (by decide)
      rw [h15]
      clear h15
      clear hd
      go_wp2
      exact ⟨Fr.refl _ _, rfl⟩
    · intro σ w' hR hd hH
      simp only [fill, Nat.reduceAdd, if_true, Bool.false_eq_true, if_false]
      obtain hq14 : (fun (v : Value) (w2 : World) => QRow w2 w.heap.size v (dueQ s d.now)) (σ 14) w' := hd 10 (by decide)
      obtain h16 : σ 16 = _ := hd 12 (by decide)
      rw [h16]
      clear h16
      clear hd
      have hh : ShE w' B (dueS s d.now) ∧ Blk w' xe 47 [.int .i64 d.kind, .string d.e.q.name, .int .u16 d.e.q.ty, .int .u16 d.e.q.cl, .slice d.e.ra d.e.rn d.e.rc, .int .i64 d.e.rcode, .int .i64 d.e.rank, .int .u64 d.e.expire, .int .u64 d.now, .int .i64 i, .string zeroEn.q.name, .int .u16 zeroEn.q.ty, .int .u16 zeroEn.q.cl, .slice zeroEn.ra zeroEn.rn zeroEn.rc, .int .i64 zeroEn.rcode, .int .i64 zeroEn.rank, .int .u64 zeroEn.expire, .bool false, .int .i64 0, (.slice none 0 0)] := hH
      have HS := Hd.mk hh.1
      have hbx := hh.2
      clear hh hH
      obtain ⟨Ag, cg, eg, -⟩ := own_any hq14
      rw [eg] at hq14 ⊢
      have HQ := Hd.mk hq14
      clear hq14 eg
      have x0 := hbx.cell (i := 19) rfl
      have xf := hbx.free 19
      go_wp2
      exact ⟨FrE.set hbx (by omega), trivial, HS.out.fr fr_set (fun k hk => by have := HXL.out k hk; simp; omega), _, row_low HQ.out fr_set (by simp; exact HXS.out), hbx.set 19 _⟩
  · intro σ w3 hR hG hH
    simp only [fill, Nat.reduceAdd, if_true, Bool.false_eq_true, if_false]
    clear hG
    obtain ⟨hs, hbx⟩ : ShE w3 B (dueS s d.now) ∧ ∃ gv, QRow w3 w.heap.size gv (dueQ s d.now) ∧ Blk w3 xe 47 (evc d i zeroEn false 0 gv) := hH
    have HRR : Hd (FrE xe B.wr w w3) := Hd.mk ((FrE.of (Fr.drew (Fr.refl _ _))).trans hR)
    have HS := Hd.mk hs
    have HB := Hd.mk hbx
    clear hR hs hbx
    refine bodyPost_end (v := .tuple #[]) (by simp [results, Try.results34, go_sem]) rfl ⟨rfl, HS.out, HB.out, HRR.out⟩
set_option maxRecDepth 100000 in
set_option maxHeartbeats 8000000 in
theorem pevict_calls {w : World} {pp xe : Nat} {B : ShB} {s : SS} {wv : Value} {d : Dd} {i : Int} (hp : Blk w pp 63 [.pointer (some ⟨B.p, 0, none⟩), wv]) (hx : Blk w xe 47 (evc d i zeroEn false 0 (.slice none 0 0))) (hs : ShE w B s) (hxa : xe ∉ B.all) (hpa : pp ∉ B.all) (hpx : pp ≠ xe) : Calls Try.prog 33 #[.pointer (some ⟨pp, 0, none⟩), .pointer (some ⟨xe, 0, none⟩)] w fun r w' => r = .returned (.tuple #[]) ∧ ShE w' B (evictS s d.e.q) ∧ (∃ gv, QRow w' w.heap.size gv (if (s.find d.e.q).isSome then [d.e.q] else []) ∧ Blk w' xe 47 (evc d i zeroEn (s.find d.e.q).isSome 0 gv)) ∧ FrE xe B.wr w w' := by
  have HXN : Hd (xe ∉ B.wr) := Hd.mk fun h => hxa (B.wr_all _ h)
  have HPN : Hd (pp ∉ xe :: B.wr) := Hd.mk (by simp only [List.mem_cons, not_or]; exact ⟨hpx, fun h => hpa (B.wr_all _ h)⟩)
  have HXL : Hd (∀ k ∈ B.all, k ≠ xe) := Hd.mk fun k hk e => hxa (e ▸ hk)
  have HLO : Hd (∀ k ∈ xe :: B.wr, k < w.heap.size) := Hd.mk fun k hk => by
    rcases List.mem_cons.1 hk with rfl | h
    · exact hx.lt
    · exact hs.lt k (B.wr_all _ h)
  have HXS : Hd (xe < w.heap.size) := Hd.mk hx.lt
  have HX : Hd (Blk w.drew xe 47 [.int .i64 d.kind, .string d.e.q.name, .int .u16 d.e.q.ty, .int .u16 d.e.q.cl, .slice d.e.ra d.e.rn d.e.rc, .int .i64 d.e.rcode, .int .i64 d.e.rank, .int .u64 d.e.expire, .int .u64 d.now, .int .i64 i, .string zeroEn.q.name, .int .u16 zeroEn.q.ty, .int .u16 zeroEn.q.cl, .slice zeroEn.ra zeroEn.rn zeroEn.rc, .int .i64 zeroEn.rcode, .int .i64 zeroEn.rank, .int .u64 zeroEn.expire, .bool false, .int .i64 0, (.slice none 0 0)]) := Hd.mk hx
  have HP : Hd (Blk w.drew pp 63 [.pointer (some ⟨B.p, 0, none⟩), wv]) := Hd.mk hp
  have HSE := Hd.mk hs
  clear hx hp hs hxa hpa hpx
  obtain ⟨fb, hfb⟩ : ∃ n, (s.find d.e.q).isSome = n := ⟨_, rfl⟩
  have HEV := Hd.mk (evC (B := B) hfb)
  rw [hfb]
  clear hfb
  go_enter Try.func33, Try.ntmps33
  go_wp2_with fail
  refine wp_region_gs { R := FrE xe B.wr, R1 := Fr [], gs := [Is (.pointer (some ⟨xe, 0, none⟩)), Is (.pointer (some ⟨pp, 0, none⟩)), Is (.pointer (some ⟨pp, 0, none⟩)), Is (.pointer (some ⟨pp, 0, none⟩)), Is (.pointer (some ⟨B.p, 0, none⟩)), Is (.pointer (some ⟨xe, 0, none⟩)), Is (.pointer (some ⟨xe, 0, none⟩)), Is (.pointer (some ⟨xe, 0, none⟩)), Is (.pointer (some ⟨xe, 1, none⟩)), Is (.pointer (some ⟨xe, 1, none⟩)), Is (.agg #[.string d.e.q.name, .int .u16 d.e.q.ty, .int .u16 d.e.q.cl]), Is (.bool fb), Is (.pointer (some ⟨xe, 0, none⟩)), Is (.pointer (some ⟨xe, 17, none⟩)), No], ds := [some 4, some 5, some 6, some 7, some 8, some 9, some 10, some 11, some 12, some 13, some 14, some 15, some 16, some 17, none], fl := [false, false, false, false, false, false, false, false, false, false, false, true, false, false, true], hs := [fun _ w2 => ShE w2 B s ∧ Blk w2 xe 47 [.int .i64 d.kind, .string d.e.q.name, .int .u16 d.e.q.ty, .int .u16 d.e.q.cl, .slice d.e.ra d.e.rn d.e.rc, .int .i64 d.e.rcode, .int .i64 d.e.rank, .int .u64 d.e.expire, .int .u64 d.now, .int .i64 i, .string zeroEn.q.name, .int .u16 zeroEn.q.ty, .int .u16 zeroEn.q.cl, .slice zeroEn.ra zeroEn.rn zeroEn.rc, .int .i64 zeroEn.rcode, .int .i64 zeroEn.rank, .int .u64 zeroEn.expire, .bool false, .int .i64 0, (.slice none 0 0)], fun _ w2 => ShE w2 B (evictS s d.e.q) ∧ Blk w2 xe 47 [.int .i64 d.kind, .string d.e.q.name, .int .u16 d.e.q.ty, .int .u16 d.e.q.cl, .slice d.e.ra d.e.rn d.e.rc, .int .i64 d.e.rcode, .int .i64 d.e.rank, .int .u64 d.e.expire, .int .u64 d.now, .int .i64 i, .string zeroEn.q.name, .int .u16 zeroEn.q.ty, .int .u16 zeroEn.q.cl, .slice zeroEn.ra zeroEn.rn zeroEn.rc, .int .i64 zeroEn.rcode, .int .i64 zeroEn.rank, .int .u64 zeroEn.expire, .bool false, .int .i64 0, (.slice none 0 0)], fun _ w2 => ShE w2 B (evictS s d.e.q) ∧ Blk w2 xe 47 [.int .i64 d.kind, .string d.e.q.name, .int .u16 d.e.q.ty, .int .u16 d.e.q.cl, .slice d.e.ra d.e.rn d.e.rc, .int .i64 d.e.rcode, .int .i64 d.e.rank, .int .u64 d.e.expire, .int .u64 d.now, .int .i64 i, .string zeroEn.q.name, .int .u16 zeroEn.q.ty, .int .u16 zeroEn.q.cl, .slice zeroEn.ra zeroEn.rn zeroEn.rc, .int .i64 zeroEn.rcode, .int .i64 zeroEn.rank, .int .u64 zeroEn.expire, .bool fb, .int .i64 0, (.slice none 0 0)]], hd := [[], [], []] } [false, false, false, false, true, true, true, true, true, true, true, true, true, true, true, true, true, true, false, false, false, false, false, false, false, false, false, false, false, false, false, false] (by kernel_rfl) _ (by kernel_rfl) (by kernel_rfl) (by kernel_rfl) (by kernel_rfl) rfl [] (fun _ _ _ h1 h2 => h1.trans h2) (fun _ _ h => FrE.of h) (staI (staI (staI (staI (staI (staI (staI (staI (staI (staI (staI (staI (staI (staI (staN sta0))))))))))))))) (sth (fun _ _ _ hf h => ⟨h.1.fr0 hf, h.2.fr hf (by simp)⟩) (sth (fun _ _ _ hf h => ⟨h.1.fr0 hf, h.2.fr hf (by simp)⟩) (sth (fun _ _ _ hf h => ⟨h.1.fr0 hf, h.2.fr hf (by simp)⟩) sth0))) (fun _ _ h => h.size) _ (FrE.of (Fr.refl _ _)) ⟨HSE.out.fr0 (Fr.drew (Fr.refl _ _)), HX.out.drew⟩ ?_ ?_
  · refine ⟨?_, ?_, ?_, ?_, ?_, ?_, ?_, ?_, ?_, ?_, ?_, ?_, ?_, ?_, ?_, trivial⟩
    · intro σ w' hR hd
      simp only [fill, Nat.reduceAdd, if_true, Bool.false_eq_true, if_false]
      clear hd
      go_wp2
      exact ⟨Fr.refl _ _, rfl⟩
    · intro σ w' hR hd
      simp only [fill, Nat.reduceAdd, if_true, Bool.false_eq_true, if_false]
      clear hd
      go_wp2
      exact ⟨Fr.refl _ _, rfl⟩
    · intro σ w' hR hd
      simp only [fill, Nat.reduceAdd, if_true, Bool.false_eq_true, if_false]
      obtain h5 : σ 5 = _ := hd 1 (by decide)
      rw [h5]
      clear h5
      clear hd
      go_wp2
      exact ⟨Fr.refl _ _, rfl⟩
    · intro σ w' hR hd
      simp only [fill, Nat.reduceAdd, if_true, Bool.false_eq_true, if_false]
      obtain h6 : σ 6 = _ := hd 2 (by decide)
      rw [h6]
      clear h6
      clear hd
      go_wp2
      exact ⟨Fr.refl _ _, rfl⟩
    · intro σ w' hR hd
      simp only [fill, Nat.reduceAdd, if_true, Bool.false_eq_true, if_false]
      obtain h7 : σ 7 = _ := hd 3 (by decide)
      rw [h7]
      clear h7
      clear hd
      obtain ⟨p0, p1⟩ : w'.cell? ⟨pp, 0, none⟩ = some (.pointer (some ⟨B.p, 0, none⟩)) ∧ True := ⟨(HP.out.fr hR.fr HPN.out).cell rfl, trivial⟩
      go_wp2
      exact ⟨Fr.refl _ _, rfl⟩
    · intro σ w' hR hd
      simp only [fill, Nat.reduceAdd, if_true, Bool.false_eq_true, if_false]
      clear hd
      go_wp2
      exact ⟨Fr.refl _ _, rfl⟩
    · intro σ w' hR hd
      simp only [fill, Nat.reduceAdd, if_true, Bool.false_eq_true, if_false]
      obtain h9 : σ 9 = _ := hd 5 (by decide)
      rw [h9]
      clear h9
      clear hd
      go_wp2
      exact ⟨Fr.refl _ _, rfl⟩
    · intro σ w' hR hd
      simp only [fill, Nat.reduceAdd, if_true, Bool.false_eq_true, if_false]
      obtain h10 : σ 10 = _ := hd 6 (by decide)
      rw [h10]
      clear h10
      clear hd
      go_wp2
      exact ⟨Fr.refl _ _, rfl⟩
    · intro σ w' hR hd
      simp only [fill, Nat.reduceAdd, if_true, Bool.false_eq_true, if_false]
      obtain h11 : σ 11 = _ := hd 7 (by decide)
      rw [h11]
      clear h11
      clear hd
      go_wp2
      exact ⟨Fr.refl _ _, rfl⟩
    · intro σ w' hR hd
      simp only [fill, Nat.reduceAdd, if_true, Bool.false_eq_true, if_false]
      obtain h12 : σ 12 = _ := hd 8 (by decide)
      rw [h12]
      clear h12
      clear hd
      go_wp2
      exact ⟨Fr.refl _ _, rfl⟩
    · intro σ w' hR hd
      simp only [fill, Nat.reduceAdd, if_true, Bool.false_eq_true, if_false]
      obtain h13 : σ 13 = _ := hd 9 (by decide)
      rw [h13]
      clear h13
      clear hd
      have c1 : w'.cell? ⟨xe, 1, none⟩ = some (.string d.e.q.name) := hR.low 1 (by omega) _ (HX.out.cell rfl)
      have c2 : w'.cell? ⟨xe, 2, none⟩ = some (.int .u16 d.e.q.ty) := hR.low 2 (by omega) _ (HX.out.cell rfl)
      have c3 : w'.cell? ⟨xe, 3, none⟩ = some (.int .u16 d.e.q.cl) := hR.low 3 (by omega) _ (HX.out.cell rfl)
      go_wp2
      exact ⟨Fr.refl _ _, rfl⟩
    · intro σ w' hR hd hH
      simp only [fill, Nat.reduceAdd, if_true, Bool.false_eq_true, if_false]
      obtain h8 : σ 8 = _ := hd 4 (by decide)
      obtain h14 : σ 14 = _ := hd 10 (by decide)
      rw [h8, h14]
      clear h8 h14
      clear hd
      have hh : ShE w' B s ∧ Blk w' xe 47 [.int .i64 d.kind, .string d.e.q.name, .int .u16 d.e.q.ty, .int .u16 d.e.q.cl, .slice d.e.ra d.e.rn d.e.rc, .int .i64 d.e.rcode, .int .i64 d.e.rank, .int .u64 d.e.expire, .int .u64 d.now, .int .i64 i, .string zeroEn.q.name, .int .u16 zeroEn.q.ty, .int .u16 zeroEn.q.cl, .slice zeroEn.ra zeroEn.rn zeroEn.rc, .int .i64 zeroEn.rcode, .int .i64 zeroEn.rank, .int .u64 zeroEn.expire, .bool false, .int .i64 0, (.slice none 0 0)] := hH
      have HS := Hd.mk hh.1
      have HB := Hd.mk hh.2
      have HSZ : Hd (w.heap.size ≤ w'.heap.size) := Hd.mk hR.size
      clear hh hH
      go_wp2_with fail
      refine (HEV.out _ HS.out).mono ?_
      rintro r w4 ⟨rfl, hs4, hf4⟩
      have HS4 := Hd.mk hs4
      have HF4 := Hd.mk hf4
      clear hs4 hf4
      go_wp2
      exact ⟨FrE.ofS HF4.out HXN.out, rfl, HS4.out, HB.out.fr HF4.out HXN.out⟩
    · intro σ w' hR hd
      simp only [fill, Nat.reduceAdd, if_true, Bool.false_eq_true, if_false]
      obtain h4 : σ 4 = _ := hd 0 (by decide)
      rw [h4]
      clear h4
      clear hd
      go_wp2
      exact ⟨Fr.refl _ _, rfl⟩
    · intro σ w' hR hd
      simp only [fill, Nat.reduceAdd, if_true, Bool.false_eq_true, if_false]
      obtain h16 : σ 16 = _ := hd 12 (by decide)
      rw [h16]
      clear h16
      clear hd
      go_wp2
      exact ⟨Fr.refl _ _, rfl⟩
    · intro σ w' hR hd hH
      simp only [fill, Nat.reduceAdd, if_true, Bool.false_eq_true, if_false]
      obtain h15 : σ 15 = _ := hd 11 (by decide)
      obtain h17 : σ 17 = _ := hd 13 (by decide)
      rw [h15, h17]
      clear h15 h17
      clear hd
      have hh : ShE w' B (evictS s d.e.q) ∧ Blk w' xe 47 [.int .i64 d.kind, .string d.e.q.name, .int .u16 d.e.q.ty, .int .u16 d.e.q.cl, .slice d.e.ra d.e.rn d.e.rc, .int .i64 d.e.rcode, .int .i64 d.e.rank, .int .u64 d.e.expire, .int .u64 d.now, .int .i64 i, .string zeroEn.q.name, .int .u16 zeroEn.q.ty, .int .u16 zeroEn.q.cl, .slice zeroEn.ra zeroEn.rn zeroEn.rc, .int .i64 zeroEn.rcode, .int .i64 zeroEn.rank, .int .u64 zeroEn.expire, .bool false, .int .i64 0, (.slice none 0 0)] := hH
      have HS := Hd.mk hh.1
      have hbx := hh.2
      clear hh hH
      have x0 := hbx.cell (i := 17) rfl
      have xf := hbx.free 17
      go_wp2
      exact ⟨FrE.set hbx (by omega), trivial, HS.out.fr fr_set (fun k hk => by have := HXL.out k hk; simp; omega), hbx.set 17 _⟩
  · intro σ w3 hR hG hH
    simp only [fill, Nat.reduceAdd, if_true, Bool.false_eq_true, if_false]
    clear hG
    obtain ⟨hs, hbx⟩ : ShE w3 B (evictS s d.e.q) ∧ Blk w3 xe 47 [.int .i64 d.kind, .string d.e.q.name, .int .u16 d.e.q.ty, .int .u16 d.e.q.cl, .slice d.e.ra d.e.rn d.e.rc, .int .i64 d.e.rcode, .int .i64 d.e.rank, .int .u64 d.e.expire, .int .u64 d.now, .int .i64 i, .string zeroEn.q.name, .int .u16 zeroEn.q.ty, .int .u16 zeroEn.q.cl, .slice zeroEn.ra zeroEn.rn zeroEn.rc, .int .i64 zeroEn.rcode, .int .i64 zeroEn.rank, .int .u64 zeroEn.expire, .bool fb, .int .i64 0, (.slice none 0 0)] := hH
    have HRR : Hd (FrE xe B.wr w w3) := Hd.mk ((FrE.of (Fr.drew (Fr.refl _ _))).trans hR)
    have HS := Hd.mk hs
    have HB := Hd.mk hbx
    clear hR hs hbx
    have hbx := HB.out
    obtain ⟨z1, z2, z3⟩ : w3.cell? ⟨xe, 1, none⟩ = some (.string d.e.q.name) ∧ w3.cell? ⟨xe, 2, none⟩ = some (.int .u16 d.e.q.ty) ∧ w3.cell? ⟨xe, 3, none⟩ = some (.int .u16 d.e.q.cl) := ⟨hbx.cell rfl, hbx.cell rfl, hbx.cell rfl⟩
    have z17 : w3.cell? ⟨xe, 17, none⟩ = some (.bool fb) := hbx.cell rfl
    have z19 : w3.cell? ⟨xe, 19, none⟩ = some (.slice none 0 0) := hbx.cell rfl
    have zf := hbx.free 19
    clear hbx
    cases fb with
    | false =>
      go_wp2
      refine bodyPost_end (v := .tuple #[]) (by simp [results, Try.results33, go_sem]) rfl ⟨rfl, HS.out, ⟨_, World.ownsRow_nil _ _ _ _, HB.out⟩, HRR.out⟩
    | true =>
      have ha := Blk.alloc HB.out (.cells #[.string d.e.q.name, .int .u16 d.e.q.ty, .int .u16 d.e.q.cl] 33)
      have z192 := ha.cell (i := 19) rfl
      have zf2 := ha.free 19
      have HA := Hd.mk ha
      have HNB : Hd (Blk (w3.alloc (.cells #[.string d.e.q.name, .int .u16 d.e.q.ty, .int .u16 d.e.q.cl] 33)) w3.heap.size 33 [.string d.e.q.name, .int .u16 d.e.q.ty, .int .u16 d.e.q.cl]) := Hd.mk (Blk.new w3 33 [.string d.e.q.name, .int .u16 d.e.q.ty, .int .u16 d.e.q.cl])
      have HFA : Hd (Fr [] w3 (w3.alloc (.cells #[.string d.e.q.name, .int .u16 d.e.q.ty, .int .u16 d.e.q.cl] 33))) := Hd.mk ((Fr.refl [] w3).alloc _)
      have HSZ : Hd (w.heap.size ≤ w3.heap.size ∧ xe ≠ w3.heap.size) := Hd.mk ⟨HRR.out.size, Nat.ne_of_lt HB.out.lt⟩
      clear ha
      go_wp2
      refine bodyPost_end (v := .tuple #[]) (by simp [results, Try.results33, go_sem]) rfl ⟨rfl, ?_, ⟨.slice (some ⟨w3.heap.size, 0, none⟩) 1 1, ?_, ?_⟩, ?_⟩
      · exact (HS.out.fr0 HFA.out).fr fr_set (fun k hk => by have := HXL.out k hk; simp; omega)
      · exact own_of_blk (n := 1) (HNB.out.fr fr_set (by simp; exact Ne.symm HSZ.out.2)) HSZ.out.1 rfl (by decide)
      · exact HA.out.set 19 _
      · exact HRR.out.trans ((FrE.of HFA.out).trans (FrE.set HA.out (by omega)))
end Go.Proofs.Ytogjfcmclfehkaa
namespace Go.Proofs.Ytogjfcmclfehkaa
open Go Go.RowKit Go.Proofs.MapL PPM Go.Proofs.YtogjfcmclfehkaaW.PrintWords

/-- What a deed makes of a shard. -/
def doneS (s : SS) (d : Dd) : SS :=
  if d.kind = 1 then (insR s d.e d.now).1 else if d.kind = 2 then (lookR s d.e.q d.now).1 else if d.kind = 3 then evictS s d.e.q else dueS s d.now
/-- What an event tells: of whom, whether, an error, who went. -/
structure Tell where
  told : En
  is : Bool
  err : Int
  gone : List Qn
def doneT (s : SS) (d : Dd) : Tell :=
  if d.kind = 1 then ⟨zeroEn, false, (insR s d.e d.now).2.2, (insR s d.e d.now).2.1⟩
  else if d.kind = 2 then ⟨(lookR s d.e.q d.now).2.1, (lookR s d.e.q d.now).2.2, 0, []⟩
  else if d.kind = 3 then ⟨zeroEn, (s.find d.e.q).isSome, 0, if (s.find d.e.q).isSome then [d.e.q] else []⟩
  else ⟨zeroEn, false, 0, dueQ s d.now⟩
structure KindAt (w : World) (xe : Nat) (j : Int) : Prop where
  k : w.cell? ⟨xe, 0, none⟩ = some (.int .i64 j)
theorem KindAt.fr0 {w w' : World} {xe : Nat} {j : Int} (h : KindAt w xe j) (hf : Fr [] w w') : KindAt w' xe j := ⟨hf.cell h.k (by simp)⟩
theorem KindAt.low {w w' : World} {xe : Nat} {j : Int} {S : List Nat} (h : KindAt w xe j) (hf : FrE xe S w w') : KindAt w' xe j := ⟨hf.low 0 (by omega) _ h.k⟩
def EvX (w w' : World) (xe : Nat) (i : Int) (t : Tell) (d : Dd) : Prop := ∃ gv, QRow w' w.heap.size gv t.gone ∧ Blk w' xe 47 (evc d i t.told t.is t.err gv)
theorem EvX.step {w w' w'' : World} {xe : Nat} {i : Int} {t : Tell} {d : Dd} (h : EvX w w' xe i t d) (hf : Fr [] w' w'') : EvX w w'' xe i t d := by
  obtain ⟨gv, h1, h2⟩ := h
  exact ⟨gv, own_fr h1 hf (by simp), h2.fr hf (by simp)⟩
theorem EvX.mk' {w w1 w' : World} {xe : Nat} {i : Int} {t : Tell} {d : Dd} (hz : w.heap.size ≤ w1.heap.size) (h : ∃ gv, QRow w' w1.heap.size gv t.gone ∧ Blk w' xe 47 (evc d i t.told t.is t.err gv)) : EvX w w' xe i t d := by
  obtain ⟨gv, h1, h2⟩ := h
  exact ⟨gv, own_base h1 hz, h2⟩
def DoX (w : World) (xe : Nat) (B : ShB) (s : SS) (d : Dd) (i : Int) (r : Ending) (w' : World) : Prop :=
  r = .returned (.tuple #[]) ∧ ShE w' B (doneS s d) ∧ EvX w w' xe i (doneT s d) d ∧ FrE xe B.wr w w'
set_option maxRecDepth 100000 in
set_option maxHeartbeats 4000000 in
theorem does_1 {w : World} {pp xe : Nat} {B : ShB} {s : SS} {wv : Value} {d : Dd} {i : Int} (hp : Blk w pp 63 [.pointer (some ⟨B.p, 0, none⟩), wv]) (hx : Blk w xe 47 (evc d i zeroEn false 0 (.slice none 0 0))) (hs : ShE w B s) (hxa : xe ∉ B.all) (hpa : pp ∉ B.all) (hpx : pp ≠ xe) (hte : TOk d.e.expire) (htn : TOk d.now) (hk : d.kind = 1) : Calls Try.prog 20 #[.pointer (some ⟨pp, 0, none⟩), .pointer (some ⟨xe, 0, none⟩)] w (DoX w xe B s d i) := by
  have HTE := Hd.mk hte
  have HTN := Hd.mk htn
  have HXA := Hd.mk hxa
  have HPA := Hd.mk hpa
  have HPX := Hd.mk hpx
  have HK := Hd.mk hk
  have HXK0 : Hd (KindAt w xe 1) := Hd.mk ⟨by have := hx.cell (i := 0) rfl; rw [← hk]; exact this⟩
  have HGD0 : Hd (w.heap.size ∉ xe :: B.wr) := Hd.mk (by
    simp only [List.mem_cons, not_or]
    exact ⟨Nat.ne_of_gt hx.lt, fun h => Nat.lt_irrefl _ (hs.lt _ (B.wr_all _ h))⟩)
  have HX := Hd.mk hx
  have HP := Hd.mk hp
  have HS := Hd.mk hs
  clear hte htn hx hp hs hxa hpa hpx hk
  go_enter Try.func20, Try.ntmps20
  go_wp2_with fail
  refine wp_name ?_; intro wp0 hw0
  have hf0 := alloc_of hw0
  have hr := blk_of (T := 85) (c := [.int .i64 1, .func (.func 31) #[] #[], .int .i64 2, .func (.func 32) #[] #[], .int .i64 3, .func (.func 33) #[] #[], .int .i64 4, .func (.func 34) #[] #[]]) hw0
  clear hw0
  obtain ⟨gd, h_gd⟩ : ∃ g, w.heap.size = g := ⟨_, rfl⟩
  rw [h_gd] at hr HGD0 ⊢
  have HGD := HGD0
  have HR := Hd.mk hr
  have HF := Hd.mk hf0
  have HXK := Hd.mk (HXK0.out.fr0 hf0)
  clear hr hf0 h_gd HGD0 HXK0
  refine wp_loop_rounds 5 ?_
  rw [rounds_succ]
  have e0 := HR.out.cell (i := 0) rfl
  have e1 := HR.out.cell (i := 1) rfl
  go_upto_region 3 with (fail)
  refine wp_name ?_; intro wk hwk
  have hfk := alloc_of hwk
  have hbk := blk_of (T := 85) (c := [.int .i64 1, .func (.func 31) #[] #[]]) hwk
  clear hwk e0 e1
  obtain ⟨nb, h_nb⟩ : ∃ x, wp0.heap.size = x := ⟨_, rfl⟩
  rw [h_nb] at hbk ⊢
  have HNB := Hd.mk hbk
  have HR := Hd.mk (HR.out.fr hfk (by simp))
  have HXK := Hd.mk (HXK.out.fr0 hfk)
  have HF := Hd.mk (HF.out.trans hfk)
  clear hfk hbk h_nb
  refine wp_region_gs { R := Fr [], R1 := Fr [], gs := [Is (.pointer (some ⟨nb, 0, none⟩)), Is (.int .i64 1), Is (.pointer (some ⟨xe, 0, none⟩)), Is (.pointer (some ⟨xe, 0, none⟩)), Is (.pointer (some ⟨xe, 0, none⟩)), Is (.pointer (some ⟨xe, 0, none⟩)), Is (.int .i64 1), Is (.bool true)], ds := [some 16, some 17, some 18, some 19, some 20, some 21, some 22, some 23], fl := [false, false, false, false, false, false, false, false], hs := [], hd := [] } [false, false, false, false, false, false, false, false, false, false, false, false, false, false, false, false, true, true, true, true, true, true, true, true, false, false, false, false, false, false] (by kernel_rfl) _ (by kernel_rfl) (by kernel_rfl) (by kernel_rfl) (by kernel_rfl) rfl [] (fun _ _ _ h1 h2 => h1.trans h2) (fun _ _ h => h) (staI (staI (staI (staI (staI (staI (staI (staI sta0)))))))) sth0 (fun _ _ h => h.size) _ (Fr.refl _ _) trivial ?_ ?_
  · refine ⟨?_, ?_, ?_, ?_, ?_, ?_, ?_, ?_, trivial⟩
    · intro σ w' hR hd
      simp only [fill, Nat.reduceAdd, if_true, Bool.false_eq_true, if_false]
      clear hd
      go_wp2
      exact ⟨Fr.refl _ _, rfl⟩
    · intro σ w' hR hd
      simp only [fill, Nat.reduceAdd, if_true, Bool.false_eq_true, if_false]
      obtain h16 : σ 16 = _ := hd 0 (by decide)
      rw [h16]
      clear h16
      clear hd
      have x0 := (HNB.out.fr ((Fr.drew (Fr.refl [] _)).trans hR) (by simp)).cell (i := 0) rfl
      go_wp2
      exact ⟨Fr.refl _ _, rfl⟩
    · intro σ w' hR hd
      simp only [fill, Nat.reduceAdd, if_true, Bool.false_eq_true, if_false]
      clear hd
      go_wp2
      exact ⟨Fr.refl _ _, rfl⟩
    · intro σ w' hR hd
      simp only [fill, Nat.reduceAdd, if_true, Bool.false_eq_true, if_false]
      obtain h18 : σ 18 = _ := hd 2 (by decide)
      rw [h18]
      clear h18
      clear hd
      go_wp2
      exact ⟨Fr.refl _ _, rfl⟩
    · intro σ w' hR hd
      simp only [fill, Nat.reduceAdd, if_true, Bool.false_eq_true, if_false]
      obtain h19 : σ 19 = _ := hd 3 (by decide)
      rw [h19]
      clear h19
      clear hd
      go_wp2
      exact ⟨Fr.refl _ _, rfl⟩
    · intro σ w' hR hd
      simp only [fill, Nat.reduceAdd, if_true, Bool.false_eq_true, if_false]
      obtain h20 : σ 20 = _ := hd 4 (by decide)
      rw [h20]
      clear h20
      clear hd
      go_wp2
      exact ⟨Fr.refl _ _, rfl⟩
    · intro σ w' hR hd
      simp only [fill, Nat.reduceAdd, if_true, Bool.false_eq_true, if_false]
      obtain h21 : σ 21 = _ := hd 5 (by decide)
      rw [h21]
      clear h21
      clear hd
      have x0 := (HXK.out.fr0 ((Fr.drew (Fr.refl [] _)).trans hR)).k
      go_wp2
      exact ⟨Fr.refl _ _, rfl⟩
    · intro σ w' hR hd
      simp only [fill, Nat.reduceAdd, if_true, Bool.false_eq_true, if_false]
      obtain h17 : σ 17 = _ := hd 1 (by decide)
      obtain h22 : σ 22 = _ := hd 6 (by decide)
      rw [h17, h22]
      clear h17 h22
      clear hd
      go_wp2
      exact ⟨Fr.refl _ _, rfl⟩
  · intro σ w3 hR hG hH
    obtain h23 : σ 23 = _ := hG 7 (by decide)
    simp only [fill, Nat.reduceAdd, if_true, Bool.false_eq_true, if_false, h23]
    clear h23
    clear hG
    have HNB := Hd.mk (HNB.out.fr ((Fr.drew (Fr.refl [] _)).trans hR) (by simp))
    have HR := Hd.mk (HR.out.fr ((Fr.drew (Fr.refl [] _)).trans hR) (by simp))
    have HXK := Hd.mk (HXK.out.fr0 ((Fr.drew (Fr.refl [] _)).trans hR))
    have HF := Hd.mk (HF.out.trans ((Fr.drew (Fr.refl [] _)).trans hR))
    clear hR hH
    have f0 := HNB.out.cell (i := 1) rfl
    go_wp2_with fail
    clear f0
    have hp := HP.out.fr HF.out (by simp)
    have hx := HX.out.fr HF.out (by simp)
    have hc := pins_calls hp hx (HS.out.fr0 HF.out) HXA.out HPA.out HPX.out HTE.out HTN.out
    refine hc.mono ?_
    clear hp hx hc
    rintro r wc ⟨rfl, hs, hev, hrr⟩
    have HRR := Hd.mk ((FrE.of HF.out).trans hrr)
    have HR := Hd.mk (HR.out.fr hrr.fr HGD.out)
    have HXK := Hd.mk (HXK.out.low hrr)
    have hev2 : EvX w wc xe i (doneT s d) d := by
      unfold doneT
      rw [HK.out]
      exact EvX.mk' HF.out.size hev
    have HEV := Hd.mk hev2
    have hs2 : ShE wc B (doneS s d) := by
      unfold doneS
      rw [HK.out]
      exact hs
    have HS := Hd.mk hs2
    clear hs hs2 hev hev2 hrr
    obtain ⟨wp1, h_w⟩ : ∃ x, wc = x := ⟨_, rfl⟩
    rw [h_w] at HR HXK HS HEV HRR ⊢
    clear h_w
    go_wp2
    rw [rounds_succ]
    have e0 := HR.out.cell (i := 2) rfl
    have e1 := HR.out.cell (i := 3) rfl
    go_upto_region 3 with (fail)
    refine wp_name ?_; intro wk hwk
    have hfk := alloc_of hwk
    have hbk := blk_of (T := 85) (c := [.int .i64 2, .func (.func 32) #[] #[]]) hwk
    clear hwk e0 e1
    obtain ⟨nb, h_nb⟩ : ∃ x, wp1.heap.size = x := ⟨_, rfl⟩
    rw [h_nb] at hbk ⊢
    have HNB := Hd.mk hbk
    have HR := Hd.mk (HR.out.fr hfk (by simp))
    have HXK := Hd.mk (HXK.out.fr0 hfk)
    have HS := Hd.mk (HS.out.fr0 hfk)
    have HEV := Hd.mk (HEV.out.step hfk)
    have HRR := Hd.mk (HRR.out.trans (FrE.of hfk))
    clear hfk hbk h_nb
    refine wp_region_gs { R := Fr [], R1 := Fr [], gs := [Is (.pointer (some ⟨nb, 0, none⟩)), Is (.int .i64 2), Is (.pointer (some ⟨xe, 0, none⟩)), Is (.pointer (some ⟨xe, 0, none⟩)), Is (.pointer (some ⟨xe, 0, none⟩)), Is (.pointer (some ⟨xe, 0, none⟩)), Is (.int .i64 1), Is (.bool false)], ds := [some 16, some 17, some 18, some 19, some 20, some 21, some 22, some 23], fl := [false, false, false, false, false, false, false, false], hs := [], hd := [] } [false, false, false, false, false, false, false, false, false, false, false, false, false, false, false, false, true, true, true, true, true, true, true, true, false, false, false, false, false, false] (by kernel_rfl) _ (by kernel_rfl) (by kernel_rfl) (by kernel_rfl) (by kernel_rfl) rfl [] (fun _ _ _ h1 h2 => h1.trans h2) (fun _ _ h => h) (staI (staI (staI (staI (staI (staI (staI (staI sta0)))))))) sth0 (fun _ _ h => h.size) _ (Fr.refl _ _) trivial ?_ ?_
    · refine ⟨?_, ?_, ?_, ?_, ?_, ?_, ?_, ?_, trivial⟩
      · intro σ w' hR hd
        simp only [fill, Nat.reduceAdd, if_true, Bool.false_eq_true, if_false]
        clear hd
        go_wp2
        exact ⟨Fr.refl _ _, rfl⟩
      · intro σ w' hR hd
        simp only [fill, Nat.reduceAdd, if_true, Bool.false_eq_true, if_false]
        obtain h16 : σ 16 = _ := hd 0 (by decide)
        rw [h16]
        clear h16
        clear hd
        have x0 := (HNB.out.fr ((Fr.drew (Fr.refl [] _)).trans hR) (by simp)).cell (i := 0) rfl
        go_wp2
        exact ⟨Fr.refl _ _, rfl⟩
      · intro σ w' hR hd
        simp only [fill, Nat.reduceAdd, if_true, Bool.false_eq_true, if_false]
        clear hd
        go_wp2
        exact ⟨Fr.refl _ _, rfl⟩
      · intro σ w' hR hd
        simp only [fill, Nat.reduceAdd, if_true, Bool.false_eq_true, if_false]
        obtain h18 : σ 18 = _ := hd 2 (by decide)
        rw [h18]
        clear h18
        clear hd
        go_wp2
        exact ⟨Fr.refl _ _, rfl⟩
      · intro σ w' hR hd
        simp only [fill, Nat.reduceAdd, if_true, Bool.false_eq_true, if_false]
        obtain h19 : σ 19 = _ := hd 3 (by decide)
        rw [h19]
        clear h19
        clear hd
        go_wp2
        exact ⟨Fr.refl _ _, rfl⟩
      · intro σ w' hR hd
        simp only [fill, Nat.reduceAdd, if_true, Bool.false_eq_true, if_false]
        obtain h20 : σ 20 = _ := hd 4 (by decide)
        rw [h20]
        clear h20
        clear hd
        go_wp2
        exact ⟨Fr.refl _ _, rfl⟩
      · intro σ w' hR hd
        simp only [fill, Nat.reduceAdd, if_true, Bool.false_eq_true, if_false]
        obtain h21 : σ 21 = _ := hd 5 (by decide)
        rw [h21]
        clear h21
        clear hd
        have x0 := (HXK.out.fr0 ((Fr.drew (Fr.refl [] _)).trans hR)).k
        go_wp2
        exact ⟨Fr.refl _ _, rfl⟩
      · intro σ w' hR hd
        simp only [fill, Nat.reduceAdd, if_true, Bool.false_eq_true, if_false]
        obtain h17 : σ 17 = _ := hd 1 (by decide)
        obtain h22 : σ 22 = _ := hd 6 (by decide)
        rw [h17, h22]
        clear h17 h22
        clear hd
        go_wp2
        exact ⟨Fr.refl _ _, rfl⟩
    · intro σ w3 hR hG hH
      obtain h23 : σ 23 = _ := hG 7 (by decide)
      simp only [fill, Nat.reduceAdd, if_true, Bool.false_eq_true, if_false, h23]
      clear h23
      clear hG
      have HNB := Hd.mk (HNB.out.fr ((Fr.drew (Fr.refl [] _)).trans hR) (by simp))
      have HR := Hd.mk (HR.out.fr ((Fr.drew (Fr.refl [] _)).trans hR) (by simp))
      have HXK := Hd.mk (HXK.out.fr0 ((Fr.drew (Fr.refl [] _)).trans hR))
      have HS := Hd.mk (HS.out.fr0 ((Fr.drew (Fr.refl [] _)).trans hR))
      have HEV := Hd.mk (HEV.out.step ((Fr.drew (Fr.refl [] _)).trans hR))
      have HRR := Hd.mk (HRR.out.trans (FrE.of ((Fr.drew (Fr.refl [] _)).trans hR)))
      clear hR hH
      obtain ⟨wp2, h_w⟩ : ∃ x, w3 = x := ⟨_, rfl⟩
      rw [h_w] at HR HXK HS HEV HRR ⊢
      clear h_w
      go_wp2
      rw [rounds_succ]
      have e0 := HR.out.cell (i := 4) rfl
      have e1 := HR.out.cell (i := 5) rfl
      go_upto_region 3 with (fail)
      refine wp_name ?_; intro wk hwk
      have hfk := alloc_of hwk
      have hbk := blk_of (T := 85) (c := [.int .i64 3, .func (.func 33) #[] #[]]) hwk
      clear hwk e0 e1
      obtain ⟨nb, h_nb⟩ : ∃ x, wp2.heap.size = x := ⟨_, rfl⟩
      rw [h_nb] at hbk ⊢
      have HNB := Hd.mk hbk
      have HR := Hd.mk (HR.out.fr hfk (by simp))
      have HXK := Hd.mk (HXK.out.fr0 hfk)
      have HS := Hd.mk (HS.out.fr0 hfk)
      have HEV := Hd.mk (HEV.out.step hfk)
      have HRR := Hd.mk (HRR.out.trans (FrE.of hfk))
      clear hfk hbk h_nb
      refine wp_region_gs { R := Fr [], R1 := Fr [], gs := [Is (.pointer (some ⟨nb, 0, none⟩)), Is (.int .i64 3), Is (.pointer (some ⟨xe, 0, none⟩)), Is (.pointer (some ⟨xe, 0, none⟩)), Is (.pointer (some ⟨xe, 0, none⟩)), Is (.pointer (some ⟨xe, 0, none⟩)), Is (.int .i64 1), Is (.bool false)], ds := [some 16, some 17, some 18, some 19, some 20, some 21, some 22, some 23], fl := [false, false, false, false, false, false, false, false], hs := [], hd := [] } [false, false, false, false, false, false, false, false, false, false, false, false, false, false, false, false, true, true, true, true, true, true, true, true, false, false, false, false, false, false] (by kernel_rfl) _ (by kernel_rfl) (by kernel_rfl) (by kernel_rfl) (by kernel_rfl) rfl [] (fun _ _ _ h1 h2 => h1.trans h2) (fun _ _ h => h) (staI (staI (staI (staI (staI (staI (staI (staI sta0)))))))) sth0 (fun _ _ h => h.size) _ (Fr.refl _ _) trivial ?_ ?_
      · refine ⟨?_, ?_, ?_, ?_, ?_, ?_, ?_, ?_, trivial⟩
        · intro σ w' hR hd
          simp only [fill, Nat.reduceAdd, if_true, Bool.false_eq_true, if_false]
          clear hd
          go_wp2
          exact ⟨Fr.refl _ _, rfl⟩
        · intro σ w' hR hd
          simp only [fill, Nat.reduceAdd, if_true, Bool.false_eq_true, if_false]
          obtain h16 : σ 16 = _ := hd 0 (by decide)
          rw [h16]
          clear h16
          clear hd
          have x0 := (HNB.out.fr ((Fr.drew (Fr.refl [] _)).trans hR) (by simp)).cell (i := 0) rfl
          go_wp2
          exact ⟨Fr.refl _ _, rfl⟩
        · intro σ w' hR hd
          simp only [fill, Nat.reduceAdd, if_true, Bool.false_eq_true, if_false]
          clear hd
          go_wp2
          exact ⟨Fr.refl _ _, rfl⟩
        · intro σ w' hR hd
          simp only [fill, Nat.reduceAdd, if_true, Bool.false_eq_true, if_false]
          obtain h18 : σ 18 = _ := hd 2 (by decide)
          rw [h18]
          clear h18
          clear hd
          go_wp2
          exact ⟨Fr.refl _ _, rfl⟩
        · intro σ w' hR hd
          simp only [fill, Nat.reduceAdd, if_true, Bool.false_eq_true, if_false]
          obtain h19 : σ 19 = _ := hd 3 (by decide)
          rw [h19]
          clear h19
          clear hd
          go_wp2
          exact ⟨Fr.refl _ _, rfl⟩
        · intro σ w' hR hd
          simp only [fill, Nat.reduceAdd, if_true, Bool.false_eq_true, if_false]
          obtain h20 : σ 20 = _ := hd 4 (by decide)
          rw [h20]
          clear h20
          clear hd
          go_wp2
          exact ⟨Fr.refl _ _, rfl⟩
        · intro σ w' hR hd
          simp only [fill, Nat.reduceAdd, if_true, Bool.false_eq_true, if_false]
          obtain h21 : σ 21 = _ := hd 5 (by decide)
          rw [h21]
          clear h21
          clear hd
          have x0 := (HXK.out.fr0 ((Fr.drew (Fr.refl [] _)).trans hR)).k
          go_wp2
          exact ⟨Fr.refl _ _, rfl⟩
        · intro σ w' hR hd
          simp only [fill, Nat.reduceAdd, if_true, Bool.false_eq_true, if_false]
          obtain h17 : σ 17 = _ := hd 1 (by decide)
          obtain h22 : σ 22 = _ := hd 6 (by decide)
          rw [h17, h22]
          clear h17 h22
          clear hd
          go_wp2
          exact ⟨Fr.refl _ _, rfl⟩
      · intro σ w3 hR hG hH
        obtain h23 : σ 23 = _ := hG 7 (by decide)
        simp only [fill, Nat.reduceAdd, if_true, Bool.false_eq_true, if_false, h23]
        clear h23
        clear hG
        have HNB := Hd.mk (HNB.out.fr ((Fr.drew (Fr.refl [] _)).trans hR) (by simp))
        have HR := Hd.mk (HR.out.fr ((Fr.drew (Fr.refl [] _)).trans hR) (by simp))
        have HXK := Hd.mk (HXK.out.fr0 ((Fr.drew (Fr.refl [] _)).trans hR))
        have HS := Hd.mk (HS.out.fr0 ((Fr.drew (Fr.refl [] _)).trans hR))
        have HEV := Hd.mk (HEV.out.step ((Fr.drew (Fr.refl [] _)).trans hR))
        have HRR := Hd.mk (HRR.out.trans (FrE.of ((Fr.drew (Fr.refl [] _)).trans hR)))
        clear hR hH
        obtain ⟨wp3, h_w⟩ : ∃ x, w3 = x := ⟨_, rfl⟩
        rw [h_w] at HR HXK HS HEV HRR ⊢
        clear h_w
        go_wp2
        rw [rounds_succ]
        have e0 := HR.out.cell (i := 6) rfl
        have e1 := HR.out.cell (i := 7) rfl
        go_upto_region 3 with (fail)
        refine wp_name ?_; intro wk hwk
        have hfk := alloc_of hwk
        have hbk := blk_of (T := 85) (c := [.int .i64 4, .func (.func 34) #[] #[]]) hwk
        clear hwk e0 e1
        obtain ⟨nb, h_nb⟩ : ∃ x, wp3.heap.size = x := ⟨_, rfl⟩
        rw [h_nb] at hbk ⊢
        have HNB := Hd.mk hbk
        have HR := Hd.mk (HR.out.fr hfk (by simp))
        have HXK := Hd.mk (HXK.out.fr0 hfk)
        have HS := Hd.mk (HS.out.fr0 hfk)
        have HEV := Hd.mk (HEV.out.step hfk)
        have HRR := Hd.mk (HRR.out.trans (FrE.of hfk))
        clear hfk hbk h_nb
        refine wp_region_gs { R := Fr [], R1 := Fr [], gs := [Is (.pointer (some ⟨nb, 0, none⟩)), Is (.int .i64 4), Is (.pointer (some ⟨xe, 0, none⟩)), Is (.pointer (some ⟨xe, 0, none⟩)), Is (.pointer (some ⟨xe, 0, none⟩)), Is (.pointer (some ⟨xe, 0, none⟩)), Is (.int .i64 1), Is (.bool false)], ds := [some 16, some 17, some 18, some 19, some 20, some 21, some 22, some 23], fl := [false, false, false, false, false, false, false, false], hs := [], hd := [] } [false, false, false, false, false, false, false, false, false, false, false, false, false, false, false, false, true, true, true, true, true, true, true, true, false, false, false, false, false, false] (by kernel_rfl) _ (by kernel_rfl) (by kernel_rfl) (by kernel_rfl) (by kernel_rfl) rfl [] (fun _ _ _ h1 h2 => h1.trans h2) (fun _ _ h => h) (staI (staI (staI (staI (staI (staI (staI (staI sta0)))))))) sth0 (fun _ _ h => h.size) _ (Fr.refl _ _) trivial ?_ ?_
        · refine ⟨?_, ?_, ?_, ?_, ?_, ?_, ?_, ?_, trivial⟩
          · intro σ w' hR hd
            simp only [fill, Nat.reduceAdd, if_true, Bool.false_eq_true, if_false]
            clear hd
            go_wp2
            exact ⟨Fr.refl _ _, rfl⟩
          · intro σ w' hR hd
            simp only [fill, Nat.reduceAdd, if_true, Bool.false_eq_true, if_false]
            obtain h16 : σ 16 = _ := hd 0 (by decide)
            rw [h16]
            clear h16
            clear hd
            have x0 := (HNB.out.fr ((Fr.drew (Fr.refl [] _)).trans hR) (by simp)).cell (i := 0) rfl
            go_wp2
            exact ⟨Fr.refl _ _, rfl⟩
          · intro σ w' hR hd
            simp only [fill, Nat.reduceAdd, if_true, Bool.false_eq_true, if_false]
            clear hd
            go_wp2
            exact ⟨Fr.refl _ _, rfl⟩
          · intro σ w' hR hd
            simp only [fill, Nat.reduceAdd, if_true, Bool.false_eq_true, if_false]
            obtain h18 : σ 18 = _ := hd 2 (by decide)
            rw [h18]
            clear h18
            clear hd
            go_wp2
            exact ⟨Fr.refl _ _, rfl⟩
          · intro σ w' hR hd
            simp only [fill, Nat.reduceAdd, if_true, Bool.false_eq_true, if_false]
            obtain h19 : σ 19 = _ := hd 3 (by decide)
            rw [h19]
            clear h19
            clear hd
            go_wp2
            exact ⟨Fr.refl _ _, rfl⟩
          · intro σ w' hR hd
            simp only [fill, Nat.reduceAdd, if_true, Bool.false_eq_true, if_false]
            obtain h20 : σ 20 = _ := hd 4 (by decide)
            rw [h20]
            clear h20
            clear hd
            go_wp2
            exact ⟨Fr.refl _ _, rfl⟩
          · intro σ w' hR hd
            simp only [fill, Nat.reduceAdd, if_true, Bool.false_eq_true, if_false]
            obtain h21 : σ 21 = _ := hd 5 (by decide)
            rw [h21]
            clear h21
            clear hd
            have x0 := (HXK.out.fr0 ((Fr.drew (Fr.refl [] _)).trans hR)).k
            go_wp2
            exact ⟨Fr.refl _ _, rfl⟩
          · intro σ w' hR hd
            simp only [fill, Nat.reduceAdd, if_true, Bool.false_eq_true, if_false]
            obtain h17 : σ 17 = _ := hd 1 (by decide)
            obtain h22 : σ 22 = _ := hd 6 (by decide)
            rw [h17, h22]
            clear h17 h22
            clear hd
            go_wp2
            exact ⟨Fr.refl _ _, rfl⟩
        · intro σ w3 hR hG hH
          obtain h23 : σ 23 = _ := hG 7 (by decide)
          simp only [fill, Nat.reduceAdd, if_true, Bool.false_eq_true, if_false, h23]
          clear h23
          clear hG
          have HNB := Hd.mk (HNB.out.fr ((Fr.drew (Fr.refl [] _)).trans hR) (by simp))
          have HR := Hd.mk (HR.out.fr ((Fr.drew (Fr.refl [] _)).trans hR) (by simp))
          have HXK := Hd.mk (HXK.out.fr0 ((Fr.drew (Fr.refl [] _)).trans hR))
          have HS := Hd.mk (HS.out.fr0 ((Fr.drew (Fr.refl [] _)).trans hR))
          have HEV := Hd.mk (HEV.out.step ((Fr.drew (Fr.refl [] _)).trans hR))
          have HRR := Hd.mk (HRR.out.trans (FrE.of ((Fr.drew (Fr.refl [] _)).trans hR)))
          clear hR hH
          obtain ⟨wp4, h_w⟩ : ∃ x, w3 = x := ⟨_, rfl⟩
          rw [h_w] at HR HXK HS HEV HRR ⊢
          clear h_w
          go_wp2
          rw [rounds_succ]
          go_wp2
          refine bodyPost_end (v := .tuple #[]) (by simp [results, Try.results20, go_sem]) rfl ⟨rfl, HS.out, HEV.out, HRR.out⟩
set_option maxRecDepth 100000 in
set_option maxHeartbeats 4000000 in
theorem does_2 {w : World} {pp xe : Nat} {B : ShB} {s : SS} {wv : Value} {d : Dd} {i : Int} (hp : Blk w pp 63 [.pointer (some ⟨B.p, 0, none⟩), wv]) (hx : Blk w xe 47 (evc d i zeroEn false 0 (.slice none 0 0))) (hs : ShE w B s) (hxa : xe ∉ B.all) (hpa : pp ∉ B.all) (hpx : pp ≠ xe) (hte : TOk d.e.expire) (htn : TOk d.now) (hk : d.kind = 2) : Calls Try.prog 20 #[.pointer (some ⟨pp, 0, none⟩), .pointer (some ⟨xe, 0, none⟩)] w (DoX w xe B s d i) := by
  have HTE := Hd.mk hte
  have HTN := Hd.mk htn
  have HXA := Hd.mk hxa
  have HPA := Hd.mk hpa
  have HPX := Hd.mk hpx
  have HK := Hd.mk hk
  have HXK0 : Hd (KindAt w xe 2) := Hd.mk ⟨by have := hx.cell (i := 0) rfl; rw [← hk]; exact this⟩
  have HGD0 : Hd (w.heap.size ∉ xe :: B.wr) := Hd.mk (by
    simp only [List.mem_cons, not_or]
    exact ⟨Nat.ne_of_gt hx.lt, fun h => Nat.lt_irrefl _ (hs.lt _ (B.wr_all _ h))⟩)
  have HX := Hd.mk hx
  have HP := Hd.mk hp
  have HS := Hd.mk hs
  clear hte htn hx hp hs hxa hpa hpx hk
  go_enter Try.func20, Try.ntmps20
  go_wp2_with fail
  refine wp_name ?_; intro wp0 hw0
  have hf0 := alloc_of hw0
  have hr := blk_of (T := 85) (c := [.int .i64 1, .func (.func 31) #[] #[], .int .i64 2, .func (.func 32) #[] #[], .int .i64 3, .func (.func 33) #[] #[], .int .i64 4, .func (.func 34) #[] #[]]) hw0
  clear hw0
  obtain ⟨gd, h_gd⟩ : ∃ g, w.heap.size = g := ⟨_, rfl⟩
  rw [h_gd] at hr HGD0 ⊢
  have HGD := HGD0
  have HR := Hd.mk hr
  have HF := Hd.mk hf0
  have HXK := Hd.mk (HXK0.out.fr0 hf0)
  clear hr hf0 h_gd HGD0 HXK0
  refine wp_loop_rounds 5 ?_
  rw [rounds_succ]
  have e0 := HR.out.cell (i := 0) rfl
  have e1 := HR.out.cell (i := 1) rfl
  go_upto_region 3 with (fail)
  refine wp_name ?_; intro wk hwk
  have hfk := alloc_of hwk
  have hbk := blk_of (T := 85) (c := [.int .i64 1, .func (.func 31) #[] #[]]) hwk
  clear hwk e0 e1
  obtain ⟨nb, h_nb⟩ : ∃ x, wp0.heap.size = x := ⟨_, rfl⟩
  rw [h_nb] at hbk ⊢
  have HNB := Hd.mk hbk
  have HR := Hd.mk (HR.out.fr hfk (by simp))
  have HXK := Hd.mk (HXK.out.fr0 hfk)
  have HF := Hd.mk (HF.out.trans hfk)
  clear hfk hbk h_nb
  refine wp_region_gs { R := Fr [], R1 := Fr [], gs := [Is (.pointer (some ⟨nb, 0, none⟩)), Is (.int .i64 1), Is (.pointer (some ⟨xe, 0, none⟩)), Is (.pointer (some ⟨xe, 0, none⟩)), Is (.pointer (some ⟨xe, 0, none⟩)), Is (.pointer (some ⟨xe, 0, none⟩)), Is (.int .i64 2), Is (.bool false)], ds := [some 16, some 17, some 18, some 19, some 20, some 21, some 22, some 23], fl := [false, false, false, false, false, false, false, false], hs := [], hd := [] } [false, false, false, false, false, false, false, false, false, false, false, false, false, false, false, false, true, true, true, true, true, true, true, true, false, false, false, false, false, false] (by kernel_rfl) _ (by kernel_rfl) (by kernel_rfl) (by kernel_rfl) (by kernel_rfl) rfl [] (fun _ _ _ h1 h2 => h1.trans h2) (fun _ _ h => h) (staI (staI (staI (staI (staI (staI (staI (staI sta0)))))))) sth0 (fun _ _ h => h.size) _ (Fr.refl _ _) trivial ?_ ?_
  · refine ⟨?_, ?_, ?_, ?_, ?_, ?_, ?_, ?_, trivial⟩
    · intro σ w' hR hd
      simp only [fill, Nat.reduceAdd, if_true, Bool.false_eq_true, if_false]
      clear hd
      go_wp2
      exact ⟨Fr.refl _ _, rfl⟩
    · intro σ w' hR hd
      simp only [fill, Nat.reduceAdd, if_true, Bool.false_eq_true, if_false]
      obtain h16 : σ 16 = _ := hd 0 (by decide)
      rw [h16]
      clear h16
      clear hd
      have x0 := (HNB.out.fr ((Fr.drew (Fr.refl [] _)).trans hR) (by simp)).cell (i := 0) rfl
      go_wp2
      exact ⟨Fr.refl _ _, rfl⟩
    · intro σ w' hR hd
      simp only [fill, Nat.reduceAdd, if_true, Bool.false_eq_true, if_false]
      clear hd
      go_wp2
      exact ⟨Fr.refl _ _, rfl⟩
    · intro σ w' hR hd
      simp only [fill, Nat.reduceAdd, if_true, Bool.false_eq_true, if_false]
      obtain h18 : σ 18 = _ := hd 2 (by decide)
      rw [h18]
      clear h18
      clear hd
      go_wp2
      exact ⟨Fr.refl _ _, rfl⟩
    · intro σ w' hR hd
      simp only [fill, Nat.reduceAdd, if_true, Bool.false_eq_true, if_false]
      obtain h19 : σ 19 = _ := hd 3 (by decide)
      rw [h19]
      clear h19
      clear hd
      go_wp2
      exact ⟨Fr.refl _ _, rfl⟩
    · intro σ w' hR hd
      simp only [fill, Nat.reduceAdd, if_true, Bool.false_eq_true, if_false]
      obtain h20 : σ 20 = _ := hd 4 (by decide)
      rw [h20]
      clear h20
      clear hd
      go_wp2
      exact ⟨Fr.refl _ _, rfl⟩
    · intro σ w' hR hd
      simp only [fill, Nat.reduceAdd, if_true, Bool.false_eq_true, if_false]
      obtain h21 : σ 21 = _ := hd 5 (by decide)
      rw [h21]
      clear h21
      clear hd
      have x0 := (HXK.out.fr0 ((Fr.drew (Fr.refl [] _)).trans hR)).k
      go_wp2
      exact ⟨Fr.refl _ _, rfl⟩
    · intro σ w' hR hd
      simp only [fill, Nat.reduceAdd, if_true, Bool.false_eq_true, if_false]
      obtain h17 : σ 17 = _ := hd 1 (by decide)
      obtain h22 : σ 22 = _ := hd 6 (by decide)
      rw [h17, h22]
      clear h17 h22
      clear hd
      go_wp2
      exact ⟨Fr.refl _ _, rfl⟩
  · intro σ w3 hR hG hH
    obtain h23 : σ 23 = _ := hG 7 (by decide)
    simp only [fill, Nat.reduceAdd, if_true, Bool.false_eq_true, if_false, h23]
    clear h23
    clear hG
    have HNB := Hd.mk (HNB.out.fr ((Fr.drew (Fr.refl [] _)).trans hR) (by simp))
    have HR := Hd.mk (HR.out.fr ((Fr.drew (Fr.refl [] _)).trans hR) (by simp))
    have HXK := Hd.mk (HXK.out.fr0 ((Fr.drew (Fr.refl [] _)).trans hR))
    have HF := Hd.mk (HF.out.trans ((Fr.drew (Fr.refl [] _)).trans hR))
    clear hR hH
    obtain ⟨wp1, h_w⟩ : ∃ x, w3 = x := ⟨_, rfl⟩
    rw [h_w] at HR HXK HF ⊢
    clear h_w
    go_wp2
    rw [rounds_succ]
    have e0 := HR.out.cell (i := 2) rfl
    have e1 := HR.out.cell (i := 3) rfl
    go_upto_region 3 with (fail)
    refine wp_name ?_; intro wk hwk
    have hfk := alloc_of hwk
    have hbk := blk_of (T := 85) (c := [.int .i64 2, .func (.func 32) #[] #[]]) hwk
    clear hwk e0 e1
    obtain ⟨nb, h_nb⟩ : ∃ x, wp1.heap.size = x := ⟨_, rfl⟩
    rw [h_nb] at hbk ⊢
    have HNB := Hd.mk hbk
    have HR := Hd.mk (HR.out.fr hfk (by simp))
    have HXK := Hd.mk (HXK.out.fr0 hfk)
    have HF := Hd.mk (HF.out.trans hfk)
    clear hfk hbk h_nb
    refine wp_region_gs { R := Fr [], R1 := Fr [], gs := [Is (.pointer (some ⟨nb, 0, none⟩)), Is (.int .i64 2), Is (.pointer (some ⟨xe, 0, none⟩)), Is (.pointer (some ⟨xe, 0, none⟩)), Is (.pointer (some ⟨xe, 0, none⟩)), Is (.pointer (some ⟨xe, 0, none⟩)), Is (.int .i64 2), Is (.bool true)], ds := [some 16, some 17, some 18, some 19, some 20, some 21, some 22, some 23], fl := [false, false, false, false, false, false, false, false], hs := [], hd := [] } [false, false, false, false, false, false, false, false, false, false, false, false, false, false, false, false, true, true, true, true, true, true, true, true, false, false, false, false, false, false] (by kernel_rfl) _ (by kernel_rfl) (by kernel_rfl) (by kernel_rfl) (by kernel_rfl) rfl [] (fun _ _ _ h1 h2 => h1.trans h2) (fun _ _ h => h) (staI (staI (staI (staI (staI (staI (staI (staI sta0)))))))) sth0 (fun _ _ h => h.size) _ (Fr.refl _ _) trivial ?_ ?_
    · refine ⟨?_, ?_, ?_, ?_, ?_, ?_, ?_, ?_, trivial⟩
      · intro σ w' hR hd
        simp only [fill, Nat.reduceAdd, if_true, Bool.false_eq_true, if_false]
        clear hd
        go_wp2
        exact ⟨Fr.refl _ _, rfl⟩
      · intro σ w' hR hd
        simp only [fill, Nat.reduceAdd, if_true, Bool.false_eq_true, if_false]
        obtain h16 : σ 16 = _ := hd 0 (by decide)
        rw [h16]
        clear h16
        clear hd
        have x0 := (HNB.out.fr ((Fr.drew (Fr.refl [] _)).trans hR) (by simp)).cell (i := 0) rfl
        go_wp2
        exact ⟨Fr.refl _ _, rfl⟩
      · intro σ w' hR hd
        simp only [fill, Nat.reduceAdd, if_true, Bool.false_eq_true, if_false]
        clear hd
        go_wp2
        exact ⟨Fr.refl _ _, rfl⟩
      · intro σ w' hR hd
        simp only [fill, Nat.reduceAdd, if_true, Bool.false_eq_true, if_false]
        obtain h18 : σ 18 = _ := hd 2 (by decide)
        rw [h18]
        clear h18
        clear hd
        go_wp2
        exact ⟨Fr.refl _ _, rfl⟩
      · intro σ w' hR hd
        simp only [fill, Nat.reduceAdd, if_true, Bool.false_eq_true, if_false]
        obtain h19 : σ 19 = _ := hd 3 (by decide)
        rw [h19]
        clear h19
        clear hd
        go_wp2
        exact ⟨Fr.refl _ _, rfl⟩
      · intro σ w' hR hd
        simp only [fill, Nat.reduceAdd, if_true, Bool.false_eq_true, if_false]
        obtain h20 : σ 20 = _ := hd 4 (by decide)
        rw [h20]
        clear h20
        clear hd
        go_wp2
        exact ⟨Fr.refl _ _, rfl⟩
      · intro σ w' hR hd
        simp only [fill, Nat.reduceAdd, if_true, Bool.false_eq_true, if_false]
        obtain h21 : σ 21 = _ := hd 5 (by decide)
        rw [h21]
        clear h21
        clear hd
        have x0 := (HXK.out.fr0 ((Fr.drew (Fr.refl [] _)).trans hR)).k
        go_wp2
        exact ⟨Fr.refl _ _, rfl⟩
      · intro σ w' hR hd
        simp only [fill, Nat.reduceAdd, if_true, Bool.false_eq_true, if_false]
        obtain h17 : σ 17 = _ := hd 1 (by decide)
        obtain h22 : σ 22 = _ := hd 6 (by decide)
        rw [h17, h22]
        clear h17 h22
        clear hd
        go_wp2
        exact ⟨Fr.refl _ _, rfl⟩
    · intro σ w3 hR hG hH
      obtain h23 : σ 23 = _ := hG 7 (by decide)
      simp only [fill, Nat.reduceAdd, if_true, Bool.false_eq_true, if_false, h23]
      clear h23
      clear hG
      have HNB := Hd.mk (HNB.out.fr ((Fr.drew (Fr.refl [] _)).trans hR) (by simp))
      have HR := Hd.mk (HR.out.fr ((Fr.drew (Fr.refl [] _)).trans hR) (by simp))
      have HXK := Hd.mk (HXK.out.fr0 ((Fr.drew (Fr.refl [] _)).trans hR))
      have HF := Hd.mk (HF.out.trans ((Fr.drew (Fr.refl [] _)).trans hR))
      clear hR hH
      have f0 := HNB.out.cell (i := 1) rfl
      go_wp2_with fail
      clear f0
      have hp := HP.out.fr HF.out (by simp)
      have hx := HX.out.fr HF.out (by simp)
      have hc := plook_calls hp hx (HS.out.fr0 HF.out) HXA.out HPA.out HPX.out
      refine hc.mono ?_
      clear hp hx hc
      rintro r wc ⟨rfl, hs, hev, hrr⟩
      have HRR := Hd.mk ((FrE.of HF.out).trans hrr)
      have HR := Hd.mk (HR.out.fr hrr.fr HGD.out)
      have HXK := Hd.mk (HXK.out.low hrr)
      have hev2 : EvX w wc xe i (doneT s d) d := by
        unfold doneT
        rw [HK.out]
        exact EvX.mk' HF.out.size ⟨.slice none 0 0, World.ownsRow_nil _ _ _ _, hev⟩
      have HEV := Hd.mk hev2
      have hs2 : ShE wc B (doneS s d) := by
        unfold doneS
        rw [HK.out]
        exact hs
      have HS := Hd.mk hs2
      clear hs hs2 hev hev2 hrr
      obtain ⟨wp2, h_w⟩ : ∃ x, wc = x := ⟨_, rfl⟩
      rw [h_w] at HR HXK HS HEV HRR ⊢
      clear h_w
      go_wp2
      rw [rounds_succ]
      have e0 := HR.out.cell (i := 4) rfl
      have e1 := HR.out.cell (i := 5) rfl
      go_upto_region 3 with (fail)
      refine wp_name ?_; intro wk hwk
      have hfk := alloc_of hwk
      have hbk := blk_of (T := 85) (c := [.int .i64 3, .func (.func 33) #[] #[]]) hwk
      clear hwk e0 e1
      obtain ⟨nb, h_nb⟩ : ∃ x, wp2.heap.size = x := ⟨_, rfl⟩
      rw [h_nb] at hbk ⊢
      have HNB := Hd.mk hbk
      have HR := Hd.mk (HR.out.fr hfk (by simp))
      have HXK := Hd.mk (HXK.out.fr0 hfk)
      have HS := Hd.mk (HS.out.fr0 hfk)
      have HEV := Hd.mk (HEV.out.step hfk)
      have HRR := Hd.mk (HRR.out.trans (FrE.of hfk))
      clear hfk hbk h_nb
      refine wp_region_gs { R := Fr [], R1 := Fr [], gs := [Is (.pointer (some ⟨nb, 0, none⟩)), Is (.int .i64 3), Is (.pointer (some ⟨xe, 0, none⟩)), Is (.pointer (some ⟨xe, 0, none⟩)), Is (.pointer (some ⟨xe, 0, none⟩)), Is (.pointer (some ⟨xe, 0, none⟩)), Is (.int .i64 2), Is (.bool false)], ds := [some 16, some 17, some 18, some 19, some 20, some 21, some 22, some 23], fl := [false, false, false, false, false, false, false, false], hs := [], hd := [] } [false, false, false, false, false, false, false, false, false, false, false, false, false, false, false, false, true, true, true, true, true, true, true, true, false, false, false, false, false, false] (by kernel_rfl) _ (by kernel_rfl) (by kernel_rfl) (by kernel_rfl) (by kernel_rfl) rfl [] (fun _ _ _ h1 h2 => h1.trans h2) (fun _ _ h => h) (staI (staI (staI (staI (staI (staI (staI (staI sta0)))))))) sth0 (fun _ _ h => h.size) _ (Fr.refl _ _) trivial ?_ ?_
      · refine ⟨?_, ?_, ?_, ?_, ?_, ?_, ?_, ?_, trivial⟩
        · intro σ w' hR hd
          simp only [fill, Nat.reduceAdd, if_true, Bool.false_eq_true, if_false]
          clear hd
          go_wp2
          exact ⟨Fr.refl _ _, rfl⟩
        · intro σ w' hR hd
          simp only [fill, Nat.reduceAdd, if_true, Bool.false_eq_true, if_false]
          obtain h16 : σ 16 = _ := hd 0 (by decide)
          rw [h16]
          clear h16
          clear hd
          have x0 := (HNB.out.fr ((Fr.drew (Fr.refl [] _)).trans hR) (by simp)).cell (i := 0) rfl
          go_wp2
          exact ⟨Fr.refl _ _, rfl⟩
        · intro σ w' hR hd
          simp only [fill, Nat.reduceAdd, if_true, Bool.false_eq_true, if_false]
          clear hd
          go_wp2
          exact ⟨Fr.refl _ _, rfl⟩
        · intro σ w' hR hd
          simp only [fill, Nat.reduceAdd, if_true, Bool.false_eq_true, if_false]
          obtain h18 : σ 18 = _ := hd 2 (by decide)
          rw [h18]
          clear h18
          clear hd
          go_wp2
          exact ⟨Fr.refl _ _, rfl⟩
        · intro σ w' hR hd
          simp only [fill, Nat.reduceAdd, if_true, Bool.false_eq_true, if_false]
          obtain h19 : σ 19 = _ := hd 3 (by decide)
          rw [h19]
          clear h19
          clear hd
          go_wp2
          exact ⟨Fr.refl _ _, rfl⟩
        · intro σ w' hR hd
          simp only [fill, Nat.reduceAdd, if_true, Bool.false_eq_true, if_false]
          obtain h20 : σ 20 = _ := hd 4 (by decide)
          rw [h20]
          clear h20
          clear hd
          go_wp2
          exact ⟨Fr.refl _ _, rfl⟩
        · intro σ w' hR hd
          simp only [fill, Nat.reduceAdd, if_true, Bool.false_eq_true, if_false]
          obtain h21 : σ 21 = _ := hd 5 (by decide)
          rw [h21]
          clear h21
          clear hd
          have x0 := (HXK.out.fr0 ((Fr.drew (Fr.refl [] _)).trans hR)).k
          go_wp2
          exact ⟨Fr.refl _ _, rfl⟩
        · intro σ w' hR hd
          simp only [fill, Nat.reduceAdd, if_true, Bool.false_eq_true, if_false]
          obtain h17 : σ 17 = _ := hd 1 (by decide)
          obtain h22 : σ 22 = _ := hd 6 (by decide)
          rw [h17, h22]
          clear h17 h22
          clear hd
          go_wp2
          exact ⟨Fr.refl _ _, rfl⟩
      · intro σ w3 hR hG hH
        obtain h23 : σ 23 = _ := hG 7 (by decide)
        simp only [fill, Nat.reduceAdd, if_true, Bool.false_eq_true, if_false, h23]
        clear h23
        clear hG
        have HNB := Hd.mk (HNB.out.fr ((Fr.drew (Fr.refl [] _)).trans hR) (by simp))
        have HR := Hd.mk (HR.out.fr ((Fr.drew (Fr.refl [] _)).trans hR) (by simp))
        have HXK := Hd.mk (HXK.out.fr0 ((Fr.drew (Fr.refl [] _)).trans hR))
        have HS := Hd.mk (HS.out.fr0 ((Fr.drew (Fr.refl [] _)).trans hR))
        have HEV := Hd.mk (HEV.out.step ((Fr.drew (Fr.refl [] _)).trans hR))
        have HRR := Hd.mk (HRR.out.trans (FrE.of ((Fr.drew (Fr.refl [] _)).trans hR)))
        clear hR hH
        obtain ⟨wp3, h_w⟩ : ∃ x, w3 = x := ⟨_, rfl⟩
        rw [h_w] at HR HXK HS HEV HRR ⊢
        clear h_w
        go_wp2
        rw [rounds_succ]
        have e0 := HR.out.cell (i := 6) rfl
        have e1 := HR.out.cell (i := 7) rfl
        go_upto_region 3 with (fail)
        refine wp_name ?_; intro wk hwk
        have hfk := alloc_of hwk
        have hbk := blk_of (T := 85) (c := [.int .i64 4, .func (.func 34) #[] #[]]) hwk
        clear hwk e0 e1
        obtain ⟨nb, h_nb⟩ : ∃ x, wp3.heap.size = x := ⟨_, rfl⟩
        rw [h_nb] at hbk ⊢
        have HNB := Hd.mk hbk
        have HR := Hd.mk (HR.out.fr hfk (by simp))
        have HXK := Hd.mk (HXK.out.fr0 hfk)
        have HS := Hd.mk (HS.out.fr0 hfk)
        have HEV := Hd.mk (HEV.out.step hfk)
        have HRR := Hd.mk (HRR.out.trans (FrE.of hfk))
        clear hfk hbk h_nb
        refine wp_region_gs { R := Fr [], R1 := Fr [], gs := [Is (.pointer (some ⟨nb, 0, none⟩)), Is (.int .i64 4), Is (.pointer (some ⟨xe, 0, none⟩)), Is (.pointer (some ⟨xe, 0, none⟩)), Is (.pointer (some ⟨xe, 0, none⟩)), Is (.pointer (some ⟨xe, 0, none⟩)), Is (.int .i64 2), Is (.bool false)], ds := [some 16, some 17, some 18, some 19, some 20, some 21, some 22, some 23], fl := [false, false, false, false, false, false, false, false], hs := [], hd := [] } [false, false, false, false, false, false, false, false, false, false, false, false, false, false, false, false, true, true, true, true, true, true, true, true, false, false, false, false, false, false] (by kernel_rfl) _ (by kernel_rfl) (by kernel_rfl) (by kernel_rfl) (by kernel_rfl) rfl [] (fun _ _ _ h1 h2 => h1.trans h2) (fun _ _ h => h) (staI (staI (staI (staI (staI (staI (staI (staI sta0)))))))) sth0 (fun _ _ h => h.size) _ (Fr.refl _ _) trivial ?_ ?_
        · refine ⟨?_, ?_, ?_, ?_, ?_, ?_, ?_, ?_, trivial⟩
          · intro σ w' hR hd
            simp only [fill, Nat.reduceAdd, if_true, Bool.false_eq_true, if_false]
            clear hd
            go_wp2
            exact ⟨Fr.refl _ _, rfl⟩
          · intro σ w' hR hd
            simp only [fill, Nat.reduceAdd, if_true, Bool.false_eq_true, if_false]
            obtain h16 : σ 16 = _ := hd 0 (by decide)
            rw [h16]
            clear h16
            clear hd
            have x0 := (HNB.out.fr ((Fr.drew (Fr.refl [] _)).trans hR) (by simp)).cell (i := 0) rfl
            go_wp2
            exact ⟨Fr.refl _ _, rfl⟩
          · intro σ w' hR hd
            simp only [fill, Nat.reduceAdd, if_true, Bool.false_eq_true, if_false]
            clear hd
            go_wp2
            exact ⟨Fr.refl _ _, rfl⟩
          · intro σ w' hR hd
            simp only [fill, Nat.reduceAdd, if_true, Bool.false_eq_true, if_false]
            obtain h18 : σ 18 = _ := hd 2 (by decide)
            rw [h18]
            clear h18
            clear hd
            go_wp2
            exact ⟨Fr.refl _ _, rfl⟩
          · intro σ w' hR hd
            simp only [fill, Nat.reduceAdd, if_true, Bool.false_eq_true, if_false]
            obtain h19 : σ 19 = _ := hd 3 (by decide)
            rw [h19]
            clear h19
            clear hd
            go_wp2
            exact ⟨Fr.refl _ _, rfl⟩
          · intro σ w' hR hd
            simp only [fill, Nat.reduceAdd, if_true, Bool.false_eq_true, if_false]
            obtain h20 : σ 20 = _ := hd 4 (by decide)
            rw [h20]
            clear h20
            clear hd
            go_wp2
            exact ⟨Fr.refl _ _, rfl⟩
          · intro σ w' hR hd
            simp only [fill, Nat.reduceAdd, if_true, Bool.false_eq_true, if_false]
            obtain h21 : σ 21 = _ := hd 5 (by decide)
            rw [h21]
            clear h21
            clear hd
            have x0 := (HXK.out.fr0 ((Fr.drew (Fr.refl [] _)).trans hR)).k
            go_wp2
            exact ⟨Fr.refl _ _, rfl⟩
          · intro σ w' hR hd
            simp only [fill, Nat.reduceAdd, if_true, Bool.false_eq_true, if_false]
            obtain h17 : σ 17 = _ := hd 1 (by decide)
            obtain h22 : σ 22 = _ := hd 6 (by decide)
            rw [h17, h22]
            clear h17 h22
            clear hd
            go_wp2
            exact ⟨Fr.refl _ _, rfl⟩
        · intro σ w3 hR hG hH
          obtain h23 : σ 23 = _ := hG 7 (by decide)
          simp only [fill, Nat.reduceAdd, if_true, Bool.false_eq_true, if_false, h23]
          clear h23
          clear hG
          have HNB := Hd.mk (HNB.out.fr ((Fr.drew (Fr.refl [] _)).trans hR) (by simp))
          have HR := Hd.mk (HR.out.fr ((Fr.drew (Fr.refl [] _)).trans hR) (by simp))
          have HXK := Hd.mk (HXK.out.fr0 ((Fr.drew (Fr.refl [] _)).trans hR))
          have HS := Hd.mk (HS.out.fr0 ((Fr.drew (Fr.refl [] _)).trans hR))
          have HEV := Hd.mk (HEV.out.step ((Fr.drew (Fr.refl [] _)).trans hR))
          have HRR := Hd.mk (HRR.out.trans (FrE.of ((Fr.drew (Fr.refl [] _)).trans hR)))
          clear hR hH
          obtain ⟨wp4, h_w⟩ : ∃ x, w3 = x := ⟨_, rfl⟩
          rw [h_w] at HR HXK HS HEV HRR ⊢
          clear h_w
          go_wp2
          rw [rounds_succ]
          go_wp2
          refine bodyPost_end (v := .tuple #[]) (by simp [results, Try.results20, go_sem]) rfl ⟨rfl, HS.out, HEV.out, HRR.out⟩
set_option maxRecDepth 100000 in
set_option maxHeartbeats 4000000 in
theorem does_3 {w : World} {pp xe : Nat} {B : ShB} {s : SS} {wv : Value} {d : Dd} {i : Int} (hp : Blk w pp 63 [.pointer (some ⟨B.p, 0, none⟩), wv]) (hx : Blk w xe 47 (evc d i zeroEn false 0 (.slice none 0 0))) (hs : ShE w B s) (hxa : xe ∉ B.all) (hpa : pp ∉ B.all) (hpx : pp ≠ xe) (hte : TOk d.e.expire) (htn : TOk d.now) (hk : d.kind = 3) : Calls Try.prog 20 #[.pointer (some ⟨pp, 0, none⟩), .pointer (some ⟨xe, 0, none⟩)] w (DoX w xe B s d i) := by
  have HTE := Hd.mk hte
  have HTN := Hd.mk htn
  have HXA := Hd.mk hxa
  have HPA := Hd.mk hpa
  have HPX := Hd.mk hpx
  have HK := Hd.mk hk
  have HXK0 : Hd (KindAt w xe 3) := Hd.mk ⟨by have := hx.cell (i := 0) rfl; rw [← hk]; exact this⟩
  have HGD0 : Hd (w.heap.size ∉ xe :: B.wr) := Hd.mk (by
    simp only [List.mem_cons, not_or]
    exact ⟨Nat.ne_of_gt hx.lt, fun h => Nat.lt_irrefl _ (hs.lt _ (B.wr_all _ h))⟩)
  have HX := Hd.mk hx
  have HP := Hd.mk hp
  have HS := Hd.mk hs
  clear hte htn hx hp hs hxa hpa hpx hk
  go_enter Try.func20, Try.ntmps20
  go_wp2_with fail
  refine wp_name ?_; intro wp0 hw0
  have hf0 := alloc_of hw0
  have hr := blk_of (T := 85) (c := [.int .i64 1, .func (.func 31) #[] #[], .int .i64 2, .func (.func 32) #[] #[], .int .i64 3, .func (.func 33) #[] #[], .int .i64 4, .func (.func 34) #[] #[]]) hw0
  clear hw0
  obtain ⟨gd, h_gd⟩ : ∃ g, w.heap.size = g := ⟨_, rfl⟩
  rw [h_gd] at hr HGD0 ⊢
  have HGD := HGD0
  have HR := Hd.mk hr
  have HF := Hd.mk hf0
  have HXK := Hd.mk (HXK0.out.fr0 hf0)
  clear hr hf0 h_gd HGD0 HXK0
  refine wp_loop_rounds 5 ?_
  rw [rounds_succ]
  have e0 := HR.out.cell (i := 0) rfl
  have e1 := HR.out.cell (i := 1) rfl
  go_upto_region 3 with (fail)
  refine wp_name ?_; intro wk hwk
  have hfk := alloc_of hwk
  have hbk := blk_of (T := 85) (c := [.int .i64 1, .func (.func 31) #[] #[]]) hwk
  clear hwk e0 e1
  obtain ⟨nb, h_nb⟩ : ∃ x, wp0.heap.size = x := ⟨_, rfl⟩
  rw [h_nb] at hbk ⊢
  have HNB := Hd.mk hbk
  have HR := Hd.mk (HR.out.fr hfk (by simp))
  have HXK := Hd.mk (HXK.out.fr0 hfk)
  have HF := Hd.mk (HF.out.trans hfk)
  clear hfk hbk h_nb
  refine wp_region_gs { R := Fr [], R1 := Fr [], gs := [Is (.pointer (some ⟨nb, 0, none⟩)), Is (.int .i64 1), Is (.pointer (some ⟨xe, 0, none⟩)), Is (.pointer (some ⟨xe, 0, none⟩)), Is (.pointer (some ⟨xe, 0, none⟩)), Is (.pointer (some ⟨xe, 0, none⟩)), Is (.int .i64 3), Is (.bool false)], ds := [some 16, some 17, some 18, some 19, some 20, some 21, some 22, some 23], fl := [false, false, false, false, false, false, false, false], hs := [], hd := [] } [false, false, false, false, false, false, false, false, false, false, false, false, false, false, false, false, true, true, true, true, true, true, true, true, false, false, false, false, false, false] (by kernel_rfl) _ (by kernel_rfl) (by kernel_rfl) (by kernel_rfl) (by kernel_rfl) rfl [] (fun _ _ _ h1 h2 => h1.trans h2) (fun _ _ h => h) (staI (staI (staI (staI (staI (staI (staI (staI sta0)))))))) sth0 (fun _ _ h => h.size) _ (Fr.refl _ _) trivial ?_ ?_
  · refine ⟨?_, ?_, ?_, ?_, ?_, ?_, ?_, ?_, trivial⟩
    · intro σ w' hR hd
      simp only [fill, Nat.reduceAdd, if_true, Bool.false_eq_true, if_false]
      clear hd
      go_wp2
      exact ⟨Fr.refl _ _, rfl⟩
    · intro σ w' hR hd
      simp only [fill, Nat.reduceAdd, if_true, Bool.false_eq_true, if_false]
      obtain h16 : σ 16 = _ := hd 0 (by decide)
      rw [h16]
      clear h16
      clear hd
      have x0 := (HNB.out.fr ((Fr.drew (Fr.refl [] _)).trans hR) (by simp)).cell (i := 0) rfl
      go_wp2
      exact ⟨Fr.refl _ _, rfl⟩
    · intro σ w' hR hd
      simp only [fill, Nat.reduceAdd, if_true, Bool.false_eq_true, if_false]
      clear hd
      go_wp2
      exact ⟨Fr.refl _ _, rfl⟩
    · intro σ w' hR hd
      simp only [fill, Nat.reduceAdd, if_true, Bool.false_eq_true, if_false]
      obtain h18 : σ 18 = _ := hd 2 (by decide)
      rw [h18]
      clear h18
      clear hd
      go_wp2
      exact ⟨Fr.refl _ _, rfl⟩
    · intro σ w' hR hd
      simp only [fill, Nat.reduceAdd, if_true, Bool.false_eq_true, if_false]
      obtain h19 : σ 19 = _ := hd 3 (by decide)
      rw [h19]
      clear h19
      clear hd
      go_wp2
      exact ⟨Fr.refl _ _, rfl⟩
    · intro σ w' hR hd
      simp only [fill, Nat.reduceAdd, if_true, Bool.false_eq_true, if_false]
      obtain h20 : σ 20 = _ := hd 4 (by decide)
      rw [h20]
      clear h20
      clear hd
      go_wp2
      exact ⟨Fr.refl _ _, rfl⟩
    · intro σ w' hR hd
      simp only [fill, Nat.reduceAdd, if_true, Bool.false_eq_true, if_false]
      obtain h21 : σ 21 = _ := hd 5 (by decide)
      rw [h21]
      clear h21
      clear hd
      have x0 := (HXK.out.fr0 ((Fr.drew (Fr.refl [] _)).trans hR)).k
      go_wp2
      exact ⟨Fr.refl _ _, rfl⟩
    · intro σ w' hR hd
      simp only [fill, Nat.reduceAdd, if_true, Bool.false_eq_true, if_false]
      obtain h17 : σ 17 = _ := hd 1 (by decide)
      obtain h22 : σ 22 = _ := hd 6 (by decide)
      rw [h17, h22]
      clear h17 h22
      clear hd
      go_wp2
      exact ⟨Fr.refl _ _, rfl⟩
  · intro σ w3 hR hG hH
    obtain h23 : σ 23 = _ := hG 7 (by decide)
    simp only [fill, Nat.reduceAdd, if_true, Bool.false_eq_true, if_false, h23]
    clear h23
    clear hG
    have HNB := Hd.mk (HNB.out.fr ((Fr.drew (Fr.refl [] _)).trans hR) (by simp))
    have HR := Hd.mk (HR.out.fr ((Fr.drew (Fr.refl [] _)).trans hR) (by simp))
    have HXK := Hd.mk (HXK.out.fr0 ((Fr.drew (Fr.refl [] _)).trans hR))
    have HF := Hd.mk (HF.out.trans ((Fr.drew (Fr.refl [] _)).trans hR))
    clear hR hH
    obtain ⟨wp1, h_w⟩ : ∃ x, w3 = x := ⟨_, rfl⟩
    rw [h_w] at HR HXK HF ⊢
    clear h_w
    go_wp2
    rw [rounds_succ]
    have e0 := HR.out.cell (i := 2) rfl
    have e1 := HR.out.cell (i := 3) rfl
    go_upto_region 3 with (fail)
    refine wp_name ?_; intro wk hwk
    have hfk := alloc_of hwk
    have hbk := blk_of (T := 85) (c := [.int .i64 2, .func (.func 32) #[] #[]]) hwk
    clear hwk e0 e1
    obtain ⟨nb, h_nb⟩ : ∃ x, wp1.heap.size = x := ⟨_, rfl⟩
    rw [h_nb] at hbk ⊢
    have HNB := Hd.mk hbk
    have HR := Hd.mk (HR.out.fr hfk (by simp))
    have HXK := Hd.mk (HXK.out.fr0 hfk)
    have HF := Hd.mk (HF.out.trans hfk)
    clear hfk hbk h_nb
    refine wp_region_gs { R := Fr [], R1 := Fr [], gs := [Is (.pointer (some ⟨nb, 0, none⟩)), Is (.int .i64 2), Is (.pointer (some ⟨xe, 0, none⟩)), Is (.pointer (some ⟨xe, 0, none⟩)), Is (.pointer (some ⟨xe, 0, none⟩)), Is (.pointer (some ⟨xe, 0, none⟩)), Is (.int .i64 3), Is (.bool false)], ds := [some 16, some 17, some 18, some 19, some 20, some 21, some 22, some 23], fl := [false, false, false, false, false, false, false, false], hs := [], hd := [] } [false, false, false, false, false, false, false, false, false, false, false, false, false, false, false, false, true, true, true, true, true, true, true, true, false, false, false, false, false, false] (by kernel_rfl) _ (by kernel_rfl) (by kernel_rfl) (by kernel_rfl) (by kernel_rfl) rfl [] (fun _ _ _ h1 h2 => h1.trans h2) (fun _ _ h => h) (staI (staI (staI (staI (staI (staI (staI (staI sta0)))))))) sth0 (fun _ _ h => h.size) _ (Fr.refl _ _) trivial ?_ ?_
    · refine ⟨?_, ?_, ?_, ?_, ?_, ?_, ?_, ?_, trivial⟩
      · intro σ w' hR hd
        simp only [fill, Nat.reduceAdd, if_true, Bool.false_eq_true, if_false]
        clear hd
        go_wp2
        exact ⟨Fr.refl _ _, rfl⟩
      · intro σ w' hR hd
        simp only [fill, Nat.reduceAdd, if_true, Bool.false_eq_true, if_false]
        obtain h16 : σ 16 = _ := hd 0 (by decide)
        rw [h16]
        clear h16
        clear hd
        have x0 := (HNB.out.fr ((Fr.drew (Fr.refl [] _)).trans hR) (by simp)).cell (i := 0) rfl
        go_wp2
        exact ⟨Fr.refl _ _, rfl⟩
      · intro σ w' hR hd
        simp only [fill, Nat.reduceAdd, if_true, Bool.false_eq_true, if_false]
        clear hd
        go_wp2
        exact ⟨Fr.refl _ _, rfl⟩
      · intro σ w' hR hd
        simp only [fill, Nat.reduceAdd, if_true, Bool.false_eq_true, if_false]
        obtain h18 : σ 18 = _ := hd 2 (by decide)
        rw [h18]
        clear h18
        clear hd
        go_wp2
        exact ⟨Fr.refl _ _, rfl⟩
      · intro σ w' hR hd
        simp only [fill, Nat.reduceAdd, if_true, Bool.false_eq_true, if_false]
        obtain h19 : σ 19 = _ := hd 3 (by decide)
        rw [h19]
        clear h19
        clear hd
        go_wp2
        exact ⟨Fr.refl _ _, rfl⟩
      · intro σ w' hR hd
        simp only [fill, Nat.reduceAdd, if_true, Bool.false_eq_true, if_false]
        obtain h20 : σ 20 = _ := hd 4 (by decide)
        rw [h20]
        clear h20
        clear hd
        go_wp2
        exact ⟨Fr.refl _ _, rfl⟩
      · intro σ w' hR hd
        simp only [fill, Nat.reduceAdd, if_true, Bool.false_eq_true, if_false]
        obtain h21 : σ 21 = _ := hd 5 (by decide)
        rw [h21]
        clear h21
        clear hd
        have x0 := (HXK.out.fr0 ((Fr.drew (Fr.refl [] _)).trans hR)).k
        go_wp2
        exact ⟨Fr.refl _ _, rfl⟩
      · intro σ w' hR hd
        simp only [fill, Nat.reduceAdd, if_true, Bool.false_eq_true, if_false]
        obtain h17 : σ 17 = _ := hd 1 (by decide)
        obtain h22 : σ 22 = _ := hd 6 (by decide)
        rw [h17, h22]
        clear h17 h22
        clear hd
        go_wp2
        exact ⟨Fr.refl _ _, rfl⟩
    · intro σ w3 hR hG hH
      obtain h23 : σ 23 = _ := hG 7 (by decide)
      simp only [fill, Nat.reduceAdd, if_true, Bool.false_eq_true, if_false, h23]
      clear h23
      clear hG
      have HNB := Hd.mk (HNB.out.fr ((Fr.drew (Fr.refl [] _)).trans hR) (by simp))
      have HR := Hd.mk (HR.out.fr ((Fr.drew (Fr.refl [] _)).trans hR) (by simp))
      have HXK := Hd.mk (HXK.out.fr0 ((Fr.drew (Fr.refl [] _)).trans hR))
      have HF := Hd.mk (HF.out.trans ((Fr.drew (Fr.refl [] _)).trans hR))
      clear hR hH
      obtain ⟨wp2, h_w⟩ : ∃ x, w3 = x := ⟨_, rfl⟩
      rw [h_w] at HR HXK HF ⊢
      clear h_w
      go_wp2
      rw [rounds_succ]
      have e0 := HR.out.cell (i := 4) rfl
      have e1 := HR.out.cell (i := 5) rfl
      go_upto_region 3 with (fail)
      refine wp_name ?_; intro wk hwk
      have hfk := alloc_of hwk
      have hbk := blk_of (T := 85) (c := [.int .i64 3, .func (.func 33) #[] #[]]) hwk
      clear hwk e0 e1
      obtain ⟨nb, h_nb⟩ : ∃ x, wp2.heap.size = x := ⟨_, rfl⟩
      rw [h_nb] at hbk ⊢
      have HNB := Hd.mk hbk
      have HR := Hd.mk (HR.out.fr hfk (by simp))
      have HXK := Hd.mk (HXK.out.fr0 hfk)
      have HF := Hd.mk (HF.out.trans hfk)
      clear hfk hbk h_nb
      refine wp_region_gs { R := Fr [], R1 := Fr [], gs := [Is (.pointer (some ⟨nb, 0, none⟩)), Is (.int .i64 3), Is (.pointer (some ⟨xe, 0, none⟩)), Is (.pointer (some ⟨xe, 0, none⟩)), Is (.pointer (some ⟨xe, 0, none⟩)), Is (.pointer (some ⟨xe, 0, none⟩)), Is (.int .i64 3), Is (.bool true)], ds := [some 16, some 17, some 18, some 19, some 20, some 21, some 22, some 23], fl := [false, false, false, false, false, false, false, false], hs := [], hd := [] } [false, false, false, false, false, false, false, false, false, false, false, false, false, false, false, false, true, true, true, true, true, true, true, true, false, false, false, false, false, false] (by kernel_rfl) _ (by kernel_rfl) (by kernel_rfl) (by kernel_rfl) (by kernel_rfl) rfl [] (fun _ _ _ h1 h2 => h1.trans h2) (fun _ _ h => h) (staI (staI (staI (staI (staI (staI (staI (staI sta0)))))))) sth0 (fun _ _ h => h.size) _ (Fr.refl _ _) trivial ?_ ?_
      · refine ⟨?_, ?_, ?_, ?_, ?_, ?_, ?_, ?_, trivial⟩
        · intro σ w' hR hd
          simp only [fill, Nat.reduceAdd, if_true, Bool.false_eq_true, if_false]
          clear hd
          go_wp2
          exact ⟨Fr.refl _ _, rfl⟩
        · intro σ w' hR hd
          simp only [fill, Nat.reduceAdd, if_true, Bool.false_eq_true, if_false]
          obtain h16 : σ 16 = _ := hd 0 (by decide)
          rw [h16]
          clear h16
          clear hd
          have x0 := (HNB.out.fr ((Fr.drew (Fr.refl [] _)).trans hR) (by simp)).cell (i := 0) rfl
          go_wp2
          exact ⟨Fr.refl _ _, rfl⟩
        · intro σ w' hR hd
          simp only [fill, Nat.reduceAdd, if_true, Bool.false_eq_true, if_false]
          clear hd
          go_wp2
          exact ⟨Fr.refl _ _, rfl⟩
        · intro σ w' hR hd
          simp only [fill, Nat.reduceAdd, if_true, Bool.false_eq_true, if_false]
          obtain h18 : σ 18 = _ := hd 2 (by decide)
          rw [h18]
          clear h18
          clear hd
          go_wp2
          exact ⟨Fr.refl _ _, rfl⟩
        · intro σ w' hR hd
          simp only [fill, Nat.reduceAdd, if_true, Bool.false_eq_true, if_false]
          obtain h19 : σ 19 = _ := hd 3 (by decide)
          rw [h19]
          clear h19
          clear hd
          go_wp2
          exact ⟨Fr.refl _ _, rfl⟩
        · intro σ w' hR hd
          simp only [fill, Nat.reduceAdd, if_true, Bool.false_eq_true, if_false]
          obtain h20 : σ 20 = _ := hd 4 (by decide)
          rw [h20]
          clear h20
          clear hd
          go_wp2
          exact ⟨Fr.refl _ _, rfl⟩
        · intro σ w' hR hd
          simp only [fill, Nat.reduceAdd, if_true, Bool.false_eq_true, if_false]
          obtain h21 : σ 21 = _ := hd 5 (by decide)
          rw [h21]
          clear h21
          clear hd
          have x0 := (HXK.out.fr0 ((Fr.drew (Fr.refl [] _)).trans hR)).k
          go_wp2
          exact ⟨Fr.refl _ _, rfl⟩
        · intro σ w' hR hd
          simp only [fill, Nat.reduceAdd, if_true, Bool.false_eq_true, if_false]
          obtain h17 : σ 17 = _ := hd 1 (by decide)
          obtain h22 : σ 22 = _ := hd 6 (by decide)
          rw [h17, h22]
          clear h17 h22
          clear hd
          go_wp2
          exact ⟨Fr.refl _ _, rfl⟩
      · intro σ w3 hR hG hH
        obtain h23 : σ 23 = _ := hG 7 (by decide)
        simp only [fill, Nat.reduceAdd, if_true, Bool.false_eq_true, if_false, h23]
        clear h23
        clear hG
        have HNB := Hd.mk (HNB.out.fr ((Fr.drew (Fr.refl [] _)).trans hR) (by simp))
        have HR := Hd.mk (HR.out.fr ((Fr.drew (Fr.refl [] _)).trans hR) (by simp))
        have HXK := Hd.mk (HXK.out.fr0 ((Fr.drew (Fr.refl [] _)).trans hR))
        have HF := Hd.mk (HF.out.trans ((Fr.drew (Fr.refl [] _)).trans hR))
        clear hR hH
        have f0 := HNB.out.cell (i := 1) rfl
        go_wp2_with fail
        clear f0
        have hp := HP.out.fr HF.out (by simp)
        have hx := HX.out.fr HF.out (by simp)
        have hc := pevict_calls hp hx (HS.out.fr0 HF.out) HXA.out HPA.out HPX.out
        refine hc.mono ?_
        clear hp hx hc
        rintro r wc ⟨rfl, hs, hev, hrr⟩
        have HRR := Hd.mk ((FrE.of HF.out).trans hrr)
        have HR := Hd.mk (HR.out.fr hrr.fr HGD.out)
        have HXK := Hd.mk (HXK.out.low hrr)
        have hev2 : EvX w wc xe i (doneT s d) d := by
          unfold doneT
          rw [HK.out]
          exact EvX.mk' HF.out.size hev
        have HEV := Hd.mk hev2
        have hs2 : ShE wc B (doneS s d) := by
          unfold doneS
          rw [HK.out]
          exact hs
        have HS := Hd.mk hs2
        clear hs hs2 hev hev2 hrr
        obtain ⟨wp3, h_w⟩ : ∃ x, wc = x := ⟨_, rfl⟩
        rw [h_w] at HR HXK HS HEV HRR ⊢
        clear h_w
        go_wp2
        rw [rounds_succ]
        have e0 := HR.out.cell (i := 6) rfl
        have e1 := HR.out.cell (i := 7) rfl
        go_upto_region 3 with (fail)
        refine wp_name ?_; intro wk hwk
        have hfk := alloc_of hwk
        have hbk := blk_of (T := 85) (c := [.int .i64 4, .func (.func 34) #[] #[]]) hwk
        clear hwk e0 e1
        obtain ⟨nb, h_nb⟩ : ∃ x, wp3.heap.size = x := ⟨_, rfl⟩
        rw [h_nb] at hbk ⊢
        have HNB := Hd.mk hbk
        have HR := Hd.mk (HR.out.fr hfk (by simp))
        have HXK := Hd.mk (HXK.out.fr0 hfk)
        have HS := Hd.mk (HS.out.fr0 hfk)
        have HEV := Hd.mk (HEV.out.step hfk)
        have HRR := Hd.mk (HRR.out.trans (FrE.of hfk))
        clear hfk hbk h_nb
        refine wp_region_gs { R := Fr [], R1 := Fr [], gs := [Is (.pointer (some ⟨nb, 0, none⟩)), Is (.int .i64 4), Is (.pointer (some ⟨xe, 0, none⟩)), Is (.pointer (some ⟨xe, 0, none⟩)), Is (.pointer (some ⟨xe, 0, none⟩)), Is (.pointer (some ⟨xe, 0, none⟩)), Is (.int .i64 3), Is (.bool false)], ds := [some 16, some 17, some 18, some 19, some 20, some 21, some 22, some 23], fl := [false, false, false, false, false, false, false, false], hs := [], hd := [] } [false, false, false, false, false, false, false, false, false, false, false, false, false, false, false, false, true, true, true, true, true, true, true, true, false, false, false, false, false, false] (by kernel_rfl) _ (by kernel_rfl) (by kernel_rfl) (by kernel_rfl) (by kernel_rfl) rfl [] (fun _ _ _ h1 h2 => h1.trans h2) (fun _ _ h => h) (staI (staI (staI (staI (staI (staI (staI (staI sta0)))))))) sth0 (fun _ _ h => h.size) _ (Fr.refl _ _) trivial ?_ ?_
        · refine ⟨?_, ?_, ?_, ?_, ?_, ?_, ?_, ?_, trivial⟩
          · intro σ w' hR hd
            simp only [fill, Nat.reduceAdd, if_true, Bool.false_eq_true, if_false]
            clear hd
            go_wp2
            exact ⟨Fr.refl _ _, rfl⟩
          · intro σ w' hR hd
            simp only [fill, Nat.reduceAdd, if_true, Bool.false_eq_true, if_false]
            obtain h16 : σ 16 = _ := hd 0 (by decide)
            rw [h16]
            clear h16
            clear hd
            have x0 := (HNB.out.fr ((Fr.drew (Fr.refl [] _)).trans hR) (by simp)).cell (i := 0) rfl
            go_wp2
            exact ⟨Fr.refl _ _, rfl⟩
          · intro σ w' hR hd
            simp only [fill, Nat.reduceAdd, if_true, Bool.false_eq_true, if_false]
            clear hd
            go_wp2
            exact ⟨Fr.refl _ _, rfl⟩
          · intro σ w' hR hd
            simp only [fill, Nat.reduceAdd, if_true, Bool.false_eq_true, if_false]
            obtain h18 : σ 18 = _ := hd 2 (by decide)
            rw [h18]
            clear h18
            clear hd
            go_wp2
            exact ⟨Fr.refl _ _, rfl⟩
          · intro σ w' hR hd
            simp only [fill, Nat.reduceAdd, if_true, Bool.false_eq_true, if_false]
            obtain h19 : σ 19 = _ := hd 3 (by decide)
            rw [h19]
            clear h19
            clear hd
            go_wp2
            exact ⟨Fr.refl _ _, rfl⟩
          · intro σ w' hR hd
            simp only [fill, Nat.reduceAdd, if_true, Bool.false_eq_true, if_false]
            obtain h20 : σ 20 = _ := hd 4 (by decide)
            rw [h20]
            clear h20
            clear hd
            go_wp2
            exact ⟨Fr.refl _ _, rfl⟩
          · intro σ w' hR hd
            simp only [fill, Nat.reduceAdd, if_true, Bool.false_eq_true, if_false]
            obtain h21 : σ 21 = _ := hd 5 (by decide)
            rw [h21]
            clear h21
            clear hd
            have x0 := (HXK.out.fr0 ((Fr.drew (Fr.refl [] _)).trans hR)).k
            go_wp2
            exact ⟨Fr.refl _ _, rfl⟩
          · intro σ w' hR hd
            simp only [fill, Nat.reduceAdd, if_true, Bool.false_eq_true, if_false]
            obtain h17 : σ 17 = _ := hd 1 (by decide)
            obtain h22 : σ 22 = _ := hd 6 (by decide)
            rw [h17, h22]
            clear h17 h22
            clear hd
            go_wp2
            exact ⟨Fr.refl _ _, rfl⟩
        · intro σ w3 hR hG hH
          obtain h23 : σ 23 = _ := hG 7 (by decide)
          simp only [fill, Nat.reduceAdd, if_true, Bool.false_eq_true, if_false, h23]
          clear h23
          clear hG
          have HNB := Hd.mk (HNB.out.fr ((Fr.drew (Fr.refl [] _)).trans hR) (by simp))
          have HR := Hd.mk (HR.out.fr ((Fr.drew (Fr.refl [] _)).trans hR) (by simp))
          have HXK := Hd.mk (HXK.out.fr0 ((Fr.drew (Fr.refl [] _)).trans hR))
          have HS := Hd.mk (HS.out.fr0 ((Fr.drew (Fr.refl [] _)).trans hR))
          have HEV := Hd.mk (HEV.out.step ((Fr.drew (Fr.refl [] _)).trans hR))
          have HRR := Hd.mk (HRR.out.trans (FrE.of ((Fr.drew (Fr.refl [] _)).trans hR)))
          clear hR hH
          obtain ⟨wp4, h_w⟩ : ∃ x, w3 = x := ⟨_, rfl⟩
          rw [h_w] at HR HXK HS HEV HRR ⊢
          clear h_w
          go_wp2
          rw [rounds_succ]
          go_wp2
          refine bodyPost_end (v := .tuple #[]) (by simp [results, Try.results20, go_sem]) rfl ⟨rfl, HS.out, HEV.out, HRR.out⟩
set_option maxRecDepth 100000 in
set_option maxHeartbeats 4000000 in
theorem does_4 {w : World} {pp xe : Nat} {B : ShB} {s : SS} {wv : Value} {d : Dd} {i : Int} (hp : Blk w pp 63 [.pointer (some ⟨B.p, 0, none⟩), wv]) (hx : Blk w xe 47 (evc d i zeroEn false 0 (.slice none 0 0))) (hs : ShE w B s) (hxa : xe ∉ B.all) (hpa : pp ∉ B.all) (hpx : pp ≠ xe) (hte : TOk d.e.expire) (htn : TOk d.now) (hk : d.kind = 4) : Calls Try.prog 20 #[.pointer (some ⟨pp, 0, none⟩), .pointer (some ⟨xe, 0, none⟩)] w (DoX w xe B s d i) := by
  have HTE := Hd.mk hte
  have HTN := Hd.mk htn
  have HXA := Hd.mk hxa
  have HPA := Hd.mk hpa
  have HPX := Hd.mk hpx
  have HK := Hd.mk hk
  have HXK0 : Hd (KindAt w xe 4) := Hd.mk ⟨by have := hx.cell (i := 0) rfl; rw [← hk]; exact this⟩
  have HGD0 : Hd (w.heap.size ∉ xe :: B.wr) := Hd.mk (by
    simp only [List.mem_cons, not_or]
    exact ⟨Nat.ne_of_gt hx.lt, fun h => Nat.lt_irrefl _ (hs.lt _ (B.wr_all _ h))⟩)
  have HX := Hd.mk hx
  have HP := Hd.mk hp
  have HS := Hd.mk hs
  clear hte htn hx hp hs hxa hpa hpx hk
  go_enter Try.func20, Try.ntmps20
  go_wp2_with fail
  refine wp_name ?_; intro wp0 hw0
  have hf0 := alloc_of hw0
  have hr := blk_of (T := 85) (c := [.int .i64 1, .func (.func 31) #[] #[], .int .i64 2, .func (.func 32) #[] #[], .int .i64 3, .func (.func 33) #[] #[], .int .i64 4, .func (.func 34) #[] #[]]) hw0
  clear hw0
  obtain ⟨gd, h_gd⟩ : ∃ g, w.heap.size = g := ⟨_, rfl⟩
  rw [h_gd] at hr HGD0 ⊢
  have HGD := HGD0
  have HR := Hd.mk hr
  have HF := Hd.mk hf0
  have HXK := Hd.mk (HXK0.out.fr0 hf0)
  clear hr hf0 h_gd HGD0 HXK0
  refine wp_loop_rounds 5 ?_
  rw [rounds_succ]
  have e0 := HR.out.cell (i := 0) rfl
  have e1 := HR.out.cell (i := 1) rfl
  go_upto_region 3 with (fail)
  refine wp_name ?_; intro wk hwk
  have hfk := alloc_of hwk
  have hbk := blk_of (T := 85) (c := [.int .i64 1, .func (.func 31) #[] #[]]) hwk
  clear hwk e0 e1
  obtain ⟨nb, h_nb⟩ : ∃ x, wp0.heap.size = x := ⟨_, rfl⟩
  rw [h_nb] at hbk ⊢
  have HNB := Hd.mk hbk
  have HR := Hd.mk (HR.out.fr hfk (by simp))
  have HXK := Hd.mk (HXK.out.fr0 hfk)
  have HF := Hd.mk (HF.out.trans hfk)
  clear hfk hbk h_nb
  refine wp_region_gs { R := Fr [], R1 := Fr [], gs := [Is (.pointer (some ⟨nb, 0, none⟩)), Is (.int .i64 1), Is (.pointer (some ⟨xe, 0, none⟩)), Is (.pointer (some ⟨xe, 0, none⟩)), Is (.pointer (some ⟨xe, 0, none⟩)), Is (.pointer (some ⟨xe, 0, none⟩)), Is (.int .i64 4), Is (.bool false)], ds := [some 16, some 17, some 18, some 19, some 20, some 21, some 22, some 23], fl := [false, false, false, false, false, false, false, false], hs := [], hd := [] } [false, false, false, false, false, false, false, false, false, false, false, false, false, false, false, false, true, true, true, true, true, true, true, true, false, false, false, false, false, false] (by kernel_rfl) _ (by kernel_rfl) (by kernel_rfl) (by kernel_rfl) (by kernel_rfl) rfl [] (fun _ _ _ h1 h2 => h1.trans h2) (fun _ _ h => h) (staI (staI (staI (staI (staI (staI (staI (staI sta0)))))))) sth0 (fun _ _ h => h.size) _ (Fr.refl _ _) trivial ?_ ?_
  · refine ⟨?_, ?_, ?_, ?_, ?_, ?_, ?_, ?_, trivial⟩
    · intro σ w' hR hd
      simp only [fill, Nat.reduceAdd, if_true, Bool.false_eq_true, if_false]
      clear hd
      go_wp2
      exact ⟨Fr.refl _ _, rfl⟩
    · intro σ w' hR hd
      simp only [fill, Nat.reduceAdd, if_true, Bool.false_eq_true, if_false]
      obtain h16 : σ 16 = _ := hd 0 (by decide)
      rw [h16]
      clear h16
      clear hd
      have x0 := (HNB.out.fr ((Fr.drew (Fr.refl [] _)).trans hR) (by simp)).cell (i := 0) rfl
      go_wp2
      exact ⟨Fr.refl _ _, rfl⟩
    · intro σ w' hR hd
      simp only [fill, Nat.reduceAdd, if_true, Bool.false_eq_true, if_false]
      clear hd
      go_wp2
      exact ⟨Fr.refl _ _, rfl⟩
    · intro σ w' hR hd
      simp only [fill, Nat.reduceAdd, if_true, Bool.false_eq_true, if_false]
      obtain h18 : σ 18 = _ := hd 2 (by decide)
      rw [h18]
      clear h18
      clear hd
      go_wp2
      exact ⟨Fr.refl _ _, rfl⟩
    · intro σ w' hR hd
      simp only [fill, Nat.reduceAdd, if_true, Bool.false_eq_true, if_false]
      obtain h19 : σ 19 = _ := hd 3 (by decide)
      rw [h19]
      clear h19
      clear hd
      go_wp2
      exact ⟨Fr.refl _ _, rfl⟩
    · intro σ w' hR hd
      simp only [fill, Nat.reduceAdd, if_true, Bool.false_eq_true, if_false]
      obtain h20 : σ 20 = _ := hd 4 (by decide)
      rw [h20]
      clear h20
      clear hd
      go_wp2
      exact ⟨Fr.refl _ _, rfl⟩
    · intro σ w' hR hd
      simp only [fill, Nat.reduceAdd, if_true, Bool.false_eq_true, if_false]
      obtain h21 : σ 21 = _ := hd 5 (by decide)
      rw [h21]
      clear h21
      clear hd
      have x0 := (HXK.out.fr0 ((Fr.drew (Fr.refl [] _)).trans hR)).k
      go_wp2
      exact ⟨Fr.refl _ _, rfl⟩
    · intro σ w' hR hd
      simp only [fill, Nat.reduceAdd, if_true, Bool.false_eq_true, if_false]
      obtain h17 : σ 17 = _ := hd 1 (by decide)
      obtain h22 : σ 22 = _ := hd 6 (by decide)
      rw [h17, h22]
      clear h17 h22
      clear hd
      go_wp2
      exact ⟨Fr.refl _ _, rfl⟩
  · intro σ w3 hR hG hH
    obtain h23 : σ 23 = _ := hG 7 (by decide)
    simp only [fill, Nat.reduceAdd, if_true, Bool.false_eq_true, if_false, h23]
    clear h23
    clear hG
    have HNB := Hd.mk (HNB.out.fr ((Fr.drew (Fr.refl [] _)).trans hR) (by simp))
    have HR := Hd.mk (HR.out.fr ((Fr.drew (Fr.refl [] _)).trans hR) (by simp))
    have HXK := Hd.mk (HXK.out.fr0 ((Fr.drew (Fr.refl [] _)).trans hR))
    have HF := Hd.mk (HF.out.trans ((Fr.drew (Fr.refl [] _)).trans hR))
    clear hR hH
    obtain ⟨wp1, h_w⟩ : ∃ x, w3 = x := ⟨_, rfl⟩
    rw [h_w] at HR HXK HF ⊢
    clear h_w
    go_wp2
    rw [rounds_succ]
    have e0 := HR.out.cell (i := 2) rfl
    have e1 := HR.out.cell (i := 3) rfl
    go_upto_region 3 with (fail)
    refine wp_name ?_; intro wk hwk
    have hfk := alloc_of hwk
    have hbk := blk_of (T := 85) (c := [.int .i64 2, .func (.func 32) #[] #[]]) hwk
    clear hwk e0 e1
    obtain ⟨nb, h_nb⟩ : ∃ x, wp1.heap.size = x := ⟨_, rfl⟩
    rw [h_nb] at hbk ⊢
    have HNB := Hd.mk hbk
    have HR := Hd.mk (HR.out.fr hfk (by simp))
    have HXK := Hd.mk (HXK.out.fr0 hfk)
    have HF := Hd.mk (HF.out.trans hfk)
    clear hfk hbk h_nb
    refine wp_region_gs { R := Fr [], R1 := Fr [], gs := [Is (.pointer (some ⟨nb, 0, none⟩)), Is (.int .i64 2), Is (.pointer (some ⟨xe, 0, none⟩)), Is (.pointer (some ⟨xe, 0, none⟩)), Is (.pointer (some ⟨xe, 0, none⟩)), Is (.pointer (some ⟨xe, 0, none⟩)), Is (.int .i64 4), Is (.bool false)], ds := [some 16, some 17, some 18, some 19, some 20, some 21, some 22, some 23], fl := [false, false, false, false, false, false, false, false], hs := [], hd := [] } [false, false, false, false, false, false, false, false, false, false, false, false, false, false, false, false, true, true, true, true, true, true, true, true, false, false, false, false, false, false] (by kernel_rfl) _ (by kernel_rfl) (by kernel_rfl) (by kernel_rfl) (by kernel_rfl) rfl [] (fun _ _ _ h1 h2 => h1.trans h2) (fun _ _ h => h) (staI (staI (staI (staI (staI (staI (staI (staI sta0)))))))) sth0 (fun _ _ h => h.size) _ (Fr.refl _ _) trivial ?_ ?_
    · refine ⟨?_, ?_, ?_, ?_, ?_, ?_, ?_, ?_, trivial⟩
      · intro σ w' hR hd
        simp only [fill, Nat.reduceAdd, if_true, Bool.false_eq_true, if_false]
        clear hd
        go_wp2
        exact ⟨Fr.refl _ _, rfl⟩
      · intro σ w' hR hd
        simp only [fill, Nat.reduceAdd, if_true, Bool.false_eq_true, if_false]
        obtain h16 : σ 16 = _ := hd 0 (by decide)
        rw [h16]
        clear h16
        clear hd
        have x0 := (HNB.out.fr ((Fr.drew (Fr.refl [] _)).trans hR) (by simp)).cell (i := 0) rfl
        go_wp2
        exact ⟨Fr.refl _ _, rfl⟩
      · intro σ w' hR hd
        simp only [fill, Nat.reduceAdd, if_true, Bool.false_eq_true, if_false]
        clear hd
        go_wp2
        exact ⟨Fr.refl _ _, rfl⟩
      · intro σ w' hR hd
        simp only [fill, Nat.reduceAdd, if_true, Bool.false_eq_true, if_false]
        obtain h18 : σ 18 = _ := hd 2 (by decide)
        rw [h18]
        clear h18
        clear hd
        go_wp2
        exact ⟨Fr.refl _ _, rfl⟩
      · intro σ w' hR hd
        simp only [fill, Nat.reduceAdd, if_true, Bool.false_eq_true, if_false]
        obtain h19 : σ 19 = _ := hd 3 (by decide)
        rw [h19]
        clear h19
        clear hd
        go_wp2
        exact ⟨Fr.refl _ _, rfl⟩
      · intro σ w' hR hd
        simp only [fill, Nat.reduceAdd, if_true, Bool.false_eq_true, if_false]
        obtain h20 : σ 20 = _ := hd 4 (by decide)
        rw [h20]
        clear h20
        clear hd
        go_wp2
        exact ⟨Fr.refl _ _, rfl⟩
      · intro σ w' hR hd
        simp only [fill, Nat.reduceAdd, if_true, Bool.false_eq_true, if_false]
        obtain h21 : σ 21 = _ := hd 5 (by decide)
        rw [h21]
        clear h21
        clear hd
        have x0 := (HXK.out.fr0 ((Fr.drew (Fr.refl [] _)).trans hR)).k
        go_wp2
        exact ⟨Fr.refl _ _, rfl⟩
      · intro σ w' hR hd
        simp only [fill, Nat.reduceAdd, if_true, Bool.false_eq_true, if_false]
        obtain h17 : σ 17 = _ := hd 1 (by decide)
        obtain h22 : σ 22 = _ := hd 6 (by decide)
        rw [h17, h22]
        clear h17 h22
        clear hd
        go_wp2
        exact ⟨Fr.refl _ _, rfl⟩
    · intro σ w3 hR hG hH
      obtain h23 : σ 23 = _ := hG 7 (by decide)
      simp only [fill, Nat.reduceAdd, if_true, Bool.false_eq_true, if_false, h23]
      clear h23
      clear hG
      have HNB := Hd.mk (HNB.out.fr ((Fr.drew (Fr.refl [] _)).trans hR) (by simp))
      have HR := Hd.mk (HR.out.fr ((Fr.drew (Fr.refl [] _)).trans hR) (by simp))
      have HXK := Hd.mk (HXK.out.fr0 ((Fr.drew (Fr.refl [] _)).trans hR))
      have HF := Hd.mk (HF.out.trans ((Fr.drew (Fr.refl [] _)).trans hR))
      clear hR hH
      obtain ⟨wp2, h_w⟩ : ∃ x, w3 = x := ⟨_, rfl⟩
      rw [h_w] at HR HXK HF ⊢
      clear h_w
      go_wp2
      rw [rounds_succ]
      have e0 := HR.out.cell (i := 4) rfl
      have e1 := HR.out.cell (i := 5) rfl
      go_upto_region 3 with (fail)
      refine wp_name ?_; intro wk hwk
      have hfk := alloc_of hwk
      have hbk := blk_of (T := 85) (c := [.int .i64 3, .func (.func 33) #[] #[]]) hwk
      clear hwk e0 e1
      obtain ⟨nb, h_nb⟩ : ∃ x, wp2.heap.size = x := ⟨_, rfl⟩
      rw [h_nb] at hbk ⊢
      have HNB := Hd.mk hbk
      have HR := Hd.mk (HR.out.fr hfk (by simp))
      have HXK := Hd.mk (HXK.out.fr0 hfk)
      have HF := Hd.mk (HF.out.trans hfk)
      clear hfk hbk h_nb
      refine wp_region_gs { R := Fr [], R1 := Fr [], gs := [Is (.pointer (some ⟨nb, 0, none⟩)), Is (.int .i64 3), Is (.pointer (some ⟨xe, 0, none⟩)), Is (.pointer (some ⟨xe, 0, none⟩)), Is (.pointer (some ⟨xe, 0, none⟩)), Is (.pointer (some ⟨xe, 0, none⟩)), Is (.int .i64 4), Is (.bool false)], ds := [some 16, some 17, some 18, some 19, some 20, some 21, some 22, some 23], fl := [false, false, false, false, false, false, false, false], hs := [], hd := [] } [false, false, false, false, false, false, false, false, false, false, false, false, false, false, false, false, true, true, true, true, true, true, true, true, false, false, false, false, false, false] (by kernel_rfl) _ (by kernel_rfl) (by kernel_rfl) (by kernel_rfl) (by kernel_rfl) rfl [] (fun _ _ _ h1 h2 => h1.trans h2) (fun _ _ h => h) (staI (staI (staI (staI (staI (staI (staI (staI sta0)))))))) sth0 (fun _ _ h => h.size) _ (Fr.refl _ _) trivial ?_ ?_
      · refine ⟨?_, ?_, ?_, ?_, ?_, ?_, ?_, ?_, trivial⟩
        · intro σ w' hR hd
          simp only [fill, Nat.reduceAdd, if_true, Bool.false_eq_true, if_false]
          clear hd
          go_wp2
          exact ⟨Fr.refl _ _, rfl⟩
        · intro σ w' hR hd
          simp only [fill, Nat.reduceAdd, if_true, Bool.false_eq_true, if_false]
          obtain h16 : σ 16 = _ := hd 0 (by decide)
          rw [h16]
          clear h16
          clear hd
          have x0 := (HNB.out.fr ((Fr.drew (Fr.refl [] _)).trans hR) (by simp)).cell (i := 0) rfl
          go_wp2
          exact ⟨Fr.refl _ _, rfl⟩
        · intro σ w' hR hd
          simp only [fill, Nat.reduceAdd, if_true, Bool.false_eq_true, if_false]
          clear hd
          go_wp2
          exact ⟨Fr.refl _ _, rfl⟩
        · intro σ w' hR hd
          simp only [fill, Nat.reduceAdd, if_true, Bool.false_eq_true, if_false]
          obtain h18 : σ 18 = _ := hd 2 (by decide)
          rw [h18]
          clear h18
          clear hd
          go_wp2
          exact ⟨Fr.refl _ _, rfl⟩
        · intro σ w' hR hd
          simp only [fill, Nat.reduceAdd, if_true, Bool.false_eq_true, if_false]
          obtain h19 : σ 19 = _ := hd 3 (by decide)
          rw [h19]
          clear h19
          clear hd
          go_wp2
          exact ⟨Fr.refl _ _, rfl⟩
        · intro σ w' hR hd
          simp only [fill, Nat.reduceAdd, if_true, Bool.false_eq_true, if_false]
          obtain h20 : σ 20 = _ := hd 4 (by decide)
          rw [h20]
          clear h20
          clear hd
          go_wp2
          exact ⟨Fr.refl _ _, rfl⟩
        · intro σ w' hR hd
          simp only [fill, Nat.reduceAdd, if_true, Bool.false_eq_true, if_false]
          obtain h21 : σ 21 = _ := hd 5 (by decide)
          rw [h21]
          clear h21
          clear hd
          have x0 := (HXK.out.fr0 ((Fr.drew (Fr.refl [] _)).trans hR)).k
          go_wp2
          exact ⟨Fr.refl _ _, rfl⟩
        · intro σ w' hR hd
          simp only [fill, Nat.reduceAdd, if_true, Bool.false_eq_true, if_false]
          obtain h17 : σ 17 = _ := hd 1 (by decide)
          obtain h22 : σ 22 = _ := hd 6 (by decide)
          rw [h17, h22]
          clear h17 h22
          clear hd
          go_wp2
          exact ⟨Fr.refl _ _, rfl⟩
      · intro σ w3 hR hG hH
        obtain h23 : σ 23 = _ := hG 7 (by decide)
        simp only [fill, Nat.reduceAdd, if_true, Bool.false_eq_true, if_false, h23]
        clear h23
        clear hG
        have HNB := Hd.mk (HNB.out.fr ((Fr.drew (Fr.refl [] _)).trans hR) (by simp))
        have HR := Hd.mk (HR.out.fr ((Fr.drew (Fr.refl [] _)).trans hR) (by simp))
        have HXK := Hd.mk (HXK.out.fr0 ((Fr.drew (Fr.refl [] _)).trans hR))
        have HF := Hd.mk (HF.out.trans ((Fr.drew (Fr.refl [] _)).trans hR))
        clear hR hH
        obtain ⟨wp3, h_w⟩ : ∃ x, w3 = x := ⟨_, rfl⟩
        rw [h_w] at HR HXK HF ⊢
        clear h_w
        go_wp2
        rw [rounds_succ]
        have e0 := HR.out.cell (i := 6) rfl
        have e1 := HR.out.cell (i := 7) rfl
        go_upto_region 3 with (fail)
        refine wp_name ?_; intro wk hwk
        have hfk := alloc_of hwk
        have hbk := blk_of (T := 85) (c := [.int .i64 4, .func (.func 34) #[] #[]]) hwk
        clear hwk e0 e1
        obtain ⟨nb, h_nb⟩ : ∃ x, wp3.heap.size = x := ⟨_, rfl⟩
        rw [h_nb] at hbk ⊢
        have HNB := Hd.mk hbk
        have HR := Hd.mk (HR.out.fr hfk (by simp))
        have HXK := Hd.mk (HXK.out.fr0 hfk)
        have HF := Hd.mk (HF.out.trans hfk)
        clear hfk hbk h_nb
        refine wp_region_gs { R := Fr [], R1 := Fr [], gs := [Is (.pointer (some ⟨nb, 0, none⟩)), Is (.int .i64 4), Is (.pointer (some ⟨xe, 0, none⟩)), Is (.pointer (some ⟨xe, 0, none⟩)), Is (.pointer (some ⟨xe, 0, none⟩)), Is (.pointer (some ⟨xe, 0, none⟩)), Is (.int .i64 4), Is (.bool true)], ds := [some 16, some 17, some 18, some 19, some 20, some 21, some 22, some 23], fl := [false, false, false, false, false, false, false, false], hs := [], hd := [] } [false, false, false, false, false, false, false, false, false, false, false, false, false, false, false, false, true, true, true, true, true, true, true, true, false, false, false, false, false, false] (by kernel_rfl) _ (by kernel_rfl) (by kernel_rfl) (by kernel_rfl) (by kernel_rfl) rfl [] (fun _ _ _ h1 h2 => h1.trans h2) (fun _ _ h => h) (staI (staI (staI (staI (staI (staI (staI (staI sta0)))))))) sth0 (fun _ _ h => h.size) _ (Fr.refl _ _) trivial ?_ ?_
        · refine ⟨?_, ?_, ?_, ?_, ?_, ?_, ?_, ?_, trivial⟩
          · intro σ w' hR hd
            simp only [fill, Nat.reduceAdd, if_true, Bool.false_eq_true, if_false]
            clear hd
            go_wp2
            exact ⟨Fr.refl _ _, rfl⟩
          · intro σ w' hR hd
            simp only [fill, Nat.reduceAdd, if_true, Bool.false_eq_true, if_false]
            obtain h16 : σ 16 = _ := hd 0 (by decide)
            rw [h16]
            clear h16
            clear hd
            have x0 := (HNB.out.fr ((Fr.drew (Fr.refl [] _)).trans hR) (by simp)).cell (i := 0) rfl
            go_wp2
            exact ⟨Fr.refl _ _, rfl⟩
          · intro σ w' hR hd
            simp only [fill, Nat.reduceAdd, if_true, Bool.false_eq_true, if_false]
            clear hd
            go_wp2
            exact ⟨Fr.refl _ _, rfl⟩
          · intro σ w' hR hd
            simp only [fill, Nat.reduceAdd, if_true, Bool.false_eq_true, if_false]
            obtain h18 : σ 18 = _ := hd 2 (by decide)
            rw [h18]
            clear h18
            clear hd
            go_wp2
            exact ⟨Fr.refl _ _, rfl⟩
          · intro σ w' hR hd
            simp only [fill, Nat.reduceAdd, if_true, Bool.false_eq_true, if_false]
            obtain h19 : σ 19 = _ := hd 3 (by decide)
            rw [h19]
            clear h19
            clear hd
            go_wp2
            exact ⟨Fr.refl _ _, rfl⟩
          · intro σ w' hR hd
            simp only [fill, Nat.reduceAdd, if_true, Bool.false_eq_true, if_false]
            obtain h20 : σ 20 = _ := hd 4 (by decide)
            rw [h20]
            clear h20
            clear hd
            go_wp2
            exact ⟨Fr.refl _ _, rfl⟩
          · intro σ w' hR hd
            simp only [fill, Nat.reduceAdd, if_true, Bool.false_eq_true, if_false]
            obtain h21 : σ 21 = _ := hd 5 (by decide)
            rw [h21]
            clear h21
            clear hd
            have x0 := (HXK.out.fr0 ((Fr.drew (Fr.refl [] _)).trans hR)).k
            go_wp2
            exact ⟨Fr.refl _ _, rfl⟩
          · intro σ w' hR hd
            simp only [fill, Nat.reduceAdd, if_true, Bool.false_eq_true, if_false]
            obtain h17 : σ 17 = _ := hd 1 (by decide)
            obtain h22 : σ 22 = _ := hd 6 (by decide)
            rw [h17, h22]
            clear h17 h22
            clear hd
            go_wp2
            exact ⟨Fr.refl _ _, rfl⟩
        · intro σ w3 hR hG hH
          obtain h23 : σ 23 = _ := hG 7 (by decide)
          simp only [fill, Nat.reduceAdd, if_true, Bool.false_eq_true, if_false, h23]
          clear h23
          clear hG
          have HNB := Hd.mk (HNB.out.fr ((Fr.drew (Fr.refl [] _)).trans hR) (by simp))
          have HR := Hd.mk (HR.out.fr ((Fr.drew (Fr.refl [] _)).trans hR) (by simp))
          have HXK := Hd.mk (HXK.out.fr0 ((Fr.drew (Fr.refl [] _)).trans hR))
          have HF := Hd.mk (HF.out.trans ((Fr.drew (Fr.refl [] _)).trans hR))
          clear hR hH
          have f0 := HNB.out.cell (i := 1) rfl
          go_wp2_with fail
          clear f0
          have hp := HP.out.fr HF.out (by simp)
          have hx := HX.out.fr HF.out (by simp)
          have hc := padv_calls hp hx (HS.out.fr0 HF.out) HXA.out HPA.out HPX.out HTN.out
          refine hc.mono ?_
          clear hp hx hc
          rintro r wc ⟨rfl, hs, hev, hrr⟩
          have HRR := Hd.mk ((FrE.of HF.out).trans hrr)
          have HR := Hd.mk (HR.out.fr hrr.fr HGD.out)
          have HXK := Hd.mk (HXK.out.low hrr)
          have hev2 : EvX w wc xe i (doneT s d) d := by
            unfold doneT
            rw [HK.out]
            exact EvX.mk' HF.out.size hev
          have HEV := Hd.mk hev2
          have hs2 : ShE wc B (doneS s d) := by
            unfold doneS
            rw [HK.out]
            exact hs
          have HS := Hd.mk hs2
          clear hs hs2 hev hev2 hrr
          obtain ⟨wp4, h_w⟩ : ∃ x, wc = x := ⟨_, rfl⟩
          rw [h_w] at HR HXK HS HEV HRR ⊢
          clear h_w
          go_wp2
          rw [rounds_succ]
          go_wp2
          refine bodyPost_end (v := .tuple #[]) (by simp [results, Try.results20, go_sem]) rfl ⟨rfl, HS.out, HEV.out, HRR.out⟩
theorem does_calls {w : World} {pp xe : Nat} {B : ShB} {s : SS} {wv : Value} {d : Dd} {i : Int} (hp : Blk w pp 63 [.pointer (some ⟨B.p, 0, none⟩), wv]) (hx : Blk w xe 47 (evc d i zeroEn false 0 (.slice none 0 0))) (hs : ShE w B s) (hxa : xe ∉ B.all) (hpa : pp ∉ B.all) (hpx : pp ≠ xe) (hte : TOk d.e.expire) (htn : TOk d.now) (hk : 1 ≤ d.kind ∧ d.kind ≤ 4) : Calls Try.prog 20 #[.pointer (some ⟨pp, 0, none⟩), .pointer (some ⟨xe, 0, none⟩)] w (DoX w xe B s d i) := by
  rcases (show d.kind = 1 ∨ d.kind = 2 ∨ d.kind = 3 ∨ d.kind = 4 by omega) with h | h | h | h
  · exact does_1 hp hx hs hxa hpa hpx hte htn h
  · exact does_2 hp hx hs hxa hpa hpx hte htn h
  · exact does_3 hp hx hs hxa hpa hpx hte htn h
  · exact does_4 hp hx hs hxa hpa hpx hte htn h
end Go.Proofs.Ytogjfcmclfehkaa
