import Derived.Test.YtogjfcmclfehkaaCA
import Derived.LaidEqlPtr
import Derived.Great.Walk
import Derived.Deep.WholeRow
import Derived.Laws.Tables
namespace Go.Proofs.Ytogjfcmclfehkaa
open Go Go.RowKit Go.Proofs.MapL PPM Go.Proofs.YtogjfcmclfehkaaW.PrintWords

theorem own_is_blk {w : World} {base E size n g m c : Nat} {xs : List Value} (h : w.ownsRow base E size (.slice (some ⟨g, 0, none⟩) m c) n xs) : ∃ cs, Blk w g E cs := by
  rcases h.2 with ⟨h1, -⟩ | ⟨g', cap, cur, h1, -, hgg, -⟩
  · cases h1
  · cases h1
    exact ⟨cur.toList, by simpa [Blk] using hgg⟩
theorem own_kblk {w : World} {base E size n k : Nat} {v : Value} {xs : List Value} (h : w.ownsRow base E size v n xs) (hk : v.ownBlock = some k) : ∃ cs, Blk w k E cs := by
  rcases h.2 with ⟨rfl, -⟩ | ⟨g, cap, cur, rfl, -⟩
  · cases hk
  · simp only [Value.ownBlock, Option.some.injEq] at hk
    subst hk
    exact own_is_blk h
/-- Blocks of other types than the shard's are none of those that it writes. -/
theorem blk_apart {w : World} {B : ShB} {s : SS} (h : ShE w B s) {g T : Nat} {cs : List Value} (hb : Blk w g T cs) (h1 : T ≠ 91) (h2 : T ≠ 115) (h3 : T ≠ 95) : g ∉ B.wr := by
  obtain ⟨tu, h⟩ := h
  simp only [ShB.wr, List.mem_cons, not_or]
  refine ⟨fun e => ?_, fun e => ?_, fun e => ?_, fun e => ?_, fun e => ?_, fun e => ?_⟩
  · exact (h.w.sl.own.ne (e ▸ hb) (Ne.symm h1)) rfl
  · exact (h.w.sl.row.ne (e ▸ hb) (Ne.symm h2)) rfl
  · exact map_ne h.w.mp hb e.symm
  · exact (h.w.wh.blk.ne (e ▸ hb) (Ne.symm h3)) rfl
  · exact map_ne h.w.wh.wh hb e.symm
  · obtain ⟨i, hi, rfl⟩ := List.getElem_of_mem e
    exact map_ne (h.w.wh.sp i hi) hb rfl
/-- None of these blocks has cells of that type. -/
def NoT (w : World) (S : List Nat) (T : Nat) : Prop := ∀ k ∈ S, ∀ cs, ¬ Blk w k T cs
section
variable {w w' : World} {S S' : List Nat} {T : Nat}
theorem NoT.nil : NoT w [] T := fun k h => by cases h
theorem NoT.cons {k : Nat} {T' : Nat} {cs : List Value} (hb : Blk w k T' cs) (hT : T' ≠ T) (h : NoT w S T) : NoT w (k :: S) T := by
  intro x hx cs' hb'
  rcases List.mem_cons.1 hx with rfl | hx
  · exact (hb.ne hb' hT) rfl
  · exact h x hx cs' hb'
theorem NoT.app (h : NoT w S T) (k : NoT w S' T) : NoT w (S ++ S') T := by
  intro x hx
  rcases List.mem_append.1 hx with hx | hx
  · exact h x hx
  · exact k x hx
theorem NoT.wr {B : ShB} {s : SS} (h : ShE w B s) (h1 : T ≠ 91) (h2 : T ≠ 115) (h3 : T ≠ 95) : NoT w B.wr T := fun _ hk _ hb => blk_apart h hb h1 h2 h3 hk
theorem NoT.own {base E size n : Nat} {v : Value} {xs : List Value} (h : w.ownsRow base E size v n xs) (hT : E ≠ T) : NoT w v.ownBlock.toList T := by
  intro k hk cs hb
  obtain ⟨cs', hb'⟩ := own_kblk h (by simpa using hk)
  exact (hb'.ne hb hT) rfl
theorem Blk.noT {b : Nat} {cs : List Value} (h : Blk w b T cs) (hf : Fr S w w') (hn : NoT w S T) : Blk w' b T cs := h.fr hf fun hx => hn b hx cs h
theorem own_noT {base size n : Nat} {v : Value} {xs : List Value} (h : w.ownsRow base T size v n xs) (hf : Fr S w w') (hn : NoT w S T) : w'.ownsRow base T size v n xs :=
  own_fr h hf fun k hk hx => by
    obtain ⟨cs, hb⟩ := own_kblk h hk
    exact hn k hx cs hb
end
/-- An event. -/
structure Ev where
  d : Dd
  i : Nat
  t : Tell
  gv : Value
def Ev.c (e : Ev) : List Value := evc e.d e.i e.t.told e.t.is e.t.err e.gv
theorem ev_len (e : Ev) : e.c.length = 20 := rfl
/-- Events in memory. -/
structure EvRow (w : World) (base : Nat) (v : Value) (l : List Ev) : Prop where
  row : w.ownsRow base 47 20 v l.length (l.flatMap Ev.c)
  gone : ∀ e ∈ l, QRow w base e.gv e.t.gone
theorem EvRow.nil (w : World) (base : Nat) : EvRow w base (.slice none 0 0) [] := ⟨World.ownsRow_nil _ _ _ _, fun _ h => by cases h⟩
theorem EvRow.noT {w w' : World} {S : List Nat} {base : Nat} {v : Value} {l : List Ev} (h : EvRow w base v l) (hf : Fr S w w') (hv : ∀ k, v.ownBlock = some k → k ∉ S) (hn : NoT w S 33) : EvRow w' base v l :=
  ⟨own_fr h.row hf hv, fun e he => own_noT (h.gone e he) hf hn⟩
def whoV (o : Option Nat) : Value := .pointer (o.map fun p => ⟨p, 0, none⟩)
/-- A cache's blocks. -/
structure CB where
  pc : Nat
  gp : Nat
  cap : Nat
  n0 : Nat
  ps : List Nat
  Bs : List ShB
structure CB.Ok (C : CB) : Prop where
  len : C.Bs.length = C.ps.length
  n1 : 1 ≤ C.ps.length ∧ C.ps.length ≤ 16
  pc : C.pc < C.n0
  gp : C.gp < C.n0
  ps : ∀ p ∈ C.ps, p < C.n0
  bs : ∀ B ∈ C.Bs, ∀ x ∈ B.all, x < C.n0
  nd : C.ps.Nodup
  ap : ∀ (i j : Nat) (B B' : ShB), C.Bs[i]? = some B → C.Bs[j]? = some B' → i ≠ j → ∀ x ∈ B.all, x ∉ B'.all
  pa : ∀ B ∈ C.Bs, C.pc ∉ B.all ∧ C.gp ∉ B.all ∧ ∀ p ∈ C.ps, p ∉ B.all
/-- What a cache is: shards, who has their locks, what was done. -/
structure Cs where
  ss : List SS
  who : List (Option Nat)
  hist : List Ev
/-- A shard, and its lock. -/
structure PAt (w : World) (p : Nat) (B : ShB) (s : SS) (o : Option Nat) : Prop where
  blk : Blk w p 63 [.pointer (some ⟨B.p, 0, none⟩), whoV o]
  sh : ShE w B s
  hand : s.hand < s.l.length
structure CAt (w : World) (C : CB) (hv : Value) (c : Cs) : Prop where
  ok : C.Ok
  n0 : C.n0 ≤ w.heap.size
  sl : c.ss.length = C.ps.length
  wl : c.who.length = C.ps.length
  blk : Blk w C.pc 58 [.slice (some ⟨C.gp, 0, none⟩) C.ps.length C.cap, hv]
  row : ∃ cs, Blk w C.gp 61 cs ∧ ∀ (i p : Nat), C.ps[i]? = some p → cs[i]? = some (.pointer (some ⟨p, 0, none⟩))
  pt : ∀ (i p : Nat) (B : ShB) (s : SS) (o : Option Nat), C.ps[i]? = some p → C.Bs[i]? = some B → c.ss[i]? = some s → c.who[i]? = some o → PAt w p B s o
  hist : EvRow w C.n0 hv c.hist
/-- A job. -/
structure Jb where
  p : Nat
  d : Dd
  left : List Nat
  lv : Value
  did : Bool
  ev : List Ev
  vv : Value
structure LeftAt (w : World) (n0 : Nat) (v : Value) (l : List Nat) : Prop where
  at_ : ∃ A c, v = .slice A l.length c ∧ l.length ≤ c ∧ (0 < l.length → ∃ g off cs, A = some ⟨g, off, none⟩ ∧ n0 ≤ g ∧ Blk w g 3 cs ∧ ∀ (i : Nat) (x : Nat), l[i]? = some x → cs[off + i]? = some (.int .i64 x))
theorem LeftAt.noT {w w' : World} {S : List Nat} {n0 : Nat} {v : Value} {l : List Nat} (h : LeftAt w n0 v l) (hf : Fr S w w') (hn : NoT w S 3) : LeftAt w' n0 v l := by
  obtain ⟨A, c, e, hc, h2⟩ := h.at_
  refine ⟨A, c, e, hc, fun h0 => ?_⟩
  obtain ⟨g, off, cs, e1, hg, hb, h3⟩ := h2 h0
  exact ⟨g, off, cs, e1, hg, hb.noT hf hn, h3⟩
structure JAt (w : World) (C : CB) (j : Jb) : Prop where
  n0 : C.n0 ≤ j.p
  blk : Blk w j.p 66 [.pointer (some ⟨C.pc, 0, none⟩), .int .i64 j.d.kind, .string j.d.e.q.name, .int .u16 j.d.e.q.ty, .int .u16 j.d.e.q.cl, .slice j.d.e.ra j.d.e.rn j.d.e.rc, .int .i64 j.d.e.rcode, .int .i64 j.d.e.rank, .int .u64 j.d.e.expire, .int .u64 j.d.now, j.lv, .bool j.did, j.vv]
  left : LeftAt w C.n0 j.lv j.left
  ev : EvRow w C.n0 j.vv j.ev
  ok : ∀ i ∈ j.left, i < C.ps.length
  kd : 1 ≤ j.d.kind ∧ j.d.kind ≤ 4
  te : TOk j.d.e.expire
  tn : TOk j.d.now
theorem CAt.fr0 {w w' : World} {C : CB} {hv : Value} {c : Cs} (h : CAt w C hv c) (hf : Fr [] w w') : CAt w' C hv c := by
  obtain ⟨cs, h1, h2⟩ := h.row
  refine ⟨h.ok, Nat.le_trans h.n0 hf.size, h.sl, h.wl, h.blk.fr hf (by simp), ⟨cs, h1.fr hf (by simp), h2⟩, fun i p B s o a1 a2 a3 a4 => ?_, h.hist.noT hf (by simp) NoT.nil⟩
  have k := h.pt i p B s o a1 a2 a3 a4
  exact ⟨k.blk.fr hf (by simp), k.sh.fr0 hf, k.hand⟩
theorem JAt.fr0 {w w' : World} {C : CB} {j : Jb} (h : JAt w C j) (hf : Fr [] w w') : JAt w' C j :=
  ⟨h.n0, h.blk.fr hf (by simp), h.left.noT hf NoT.nil, h.ev.noT hf (by simp) NoT.nil, h.ok, h.kd, h.te, h.tn⟩
end Go.Proofs.Ytogjfcmclfehkaa
namespace Go.Proofs.Ytogjfcmclfehkaa
open Go Go.RowKit Go.Proofs.MapL PPM Go.Proofs.YtogjfcmclfehkaaW.PrintWords

theorem neq_same {P : Program} (w : World) {tp te : TypeId} {j : TypeInfo} (a : Addr) (hp : P.underlying tp = some (.pointer te)) (hte : P.info? te = some j) :
    (binOp .neq tp (.pointer (some a)) (.pointer (some a))).run P w = .ok (.bool false) w := by
  have h : ∀ d : Nat, (Op.equalIn (d + 1) tp (.pointer (some a)) (.pointer (some a))).run P w = .ok true w := fun d => by
    simp [Op.equalIn, run_underlying hp, sizeOf, typeInfo, hte, run_sameAddr_same]
  simp only [binOp]
  simp [Op.equal, Op.maxDepth, h 9999]
theorem neq_other {P : Program} (w : World) {tp te : TypeId} {j : TypeInfo} {a b : Addr} {ca cb : Array Value} {ta tb : TypeId} (hp : P.underlying tp = some (.pointer te)) (hte : P.info? te = some j) (hsz : j.size ≠ 0)
    (hne : a ≠ b) (ha : w.heap[a.block]? = some (.cells ca ta (0, 0))) (hb : w.heap[b.block]? = some (.cells cb tb (0, 0))) :
    (binOp .neq tp (.pointer (some a)) (.pointer (some b))).run P w = .ok (.bool true) w := by
  have h : ∀ d : Nat, (Op.equalIn (d + 1) tp (.pointer (some a)) (.pointer (some b))).run P w = .ok false w := fun d => by
    simp [Op.equalIn, run_underlying hp, sizeOf, typeInfo, hte, hsz, run_sameAddr_other w hne ha hb]
  simp only [binOp]
  simp [Op.equal, Op.maxDepth, h 9999]
theorem info_job : ∃ j : TypeInfo, Try.prog.info? 66 = some j ∧ j.size ≠ 0 := by
  have h : (Try.prog.info? 66).map (fun i => i.size) = some 13 := by kernel_rfl
  cases hi : Try.prog.info? 66 with
  | none => rw [hi] at h; cases h
  | some j =>
    rw [hi] at h
    refine ⟨j, rfl, ?_⟩
    simp at h
    omega
/-- Pointers to jobs. -/
theorem job_same (w : World) (p : Nat) : (binOp .neq 29 (.pointer (some ⟨p, 0, none⟩)) (.pointer (some ⟨p, 0, none⟩))).run Try.prog w = .ok (.bool false) w := by
  obtain ⟨j, h, -⟩ := info_job
  exact neq_same w _ (te := 66) Try.underlying29 h
theorem job_other {w : World} {p q T T' : Nat} {cs cs' : List Value} (hp : Blk w p T cs) (hq : Blk w q T' cs') (hne : p ≠ q) : (binOp .neq 29 (.pointer (some ⟨p, 0, none⟩)) (.pointer (some ⟨q, 0, none⟩))).run Try.prog w = .ok (.bool true) w := by
  obtain ⟨j, h, hz⟩ := info_job
  exact neq_other w (te := 66) Try.underlying29 h hz (fun e => hne (by injection e)) hp hq
theorem noT_part {w : World} {p T : Nat} {cs : List Value} (hb : Blk w p 63 cs) (hT : 63 ≠ T) : NoT w [p] T := NoT.cons hb hT NoT.nil
theorem JAt.fr {w w' : World} {C : CB} {j : Jb} {S : List Nat} (h : JAt w C j) (hf : Fr S w w') (h1 : j.p ∉ S) (h2 : NoT w S 3) (h3 : NoT w S 33) (h4 : ∀ k, j.vv.ownBlock = some k → k ∉ S) : JAt w' C j :=
  ⟨h.n0, h.blk.fr hf h1, h.left.noT hf h2, h.ev.noT hf h4 h3, h.ok, h.kd, h.te, h.tn⟩
theorem JAt.part {w w' : World} {C : CB} {j : Jb} {p : Nat} {cs : List Value} (h : JAt w C j) (hb : Blk w p 63 cs) (hf : Fr [p] w w') : JAt w' C j := by
  refine h.fr hf ?_ (noT_part hb (by decide)) (noT_part hb (by decide)) fun k hk => ?_
  · simp only [List.mem_singleton]
    exact h.blk.ne hb (by decide)
  · obtain ⟨cs', hc⟩ := own_kblk h.ev.row hk
    simp only [List.mem_singleton]
    exact hc.ne hb (by decide)
theorem get_set {α : Type} {l : List α} {i k : Nat} {a x : α} (h : (l.set i a)[k]? = some x) : (k = i ∧ x = a) ∨ (k ≠ i ∧ l[k]? = some x) := by
  rw [List.getElem?_set] at h
  split at h
  · rename_i e
    split at h
    · cases h; exact .inl ⟨e.symm, rfl⟩
    · cases h
  · rename_i e
    exact .inr ⟨fun e2 => e e2.symm, h⟩
theorem nodup_get {l : List Nat} (h : l.Nodup) {i k x : Nat} (hi : l[i]? = some x) (hk : l[k]? = some x) : i = k := by
  obtain ⟨h1, e1⟩ := List.getElem?_eq_some_iff.1 hi
  obtain ⟨h2, e2⟩ := List.getElem?_eq_some_iff.1 hk
  have hp := List.pairwise_iff_getElem.1 h
  rcases Nat.lt_trichotomy i k with hlt | rfl | hlt
  · exact absurd (e1.trans e2.symm) (hp i k h1 h2 hlt)
  · rfl
  · exact absurd (e2.trans e1.symm) (hp k i h2 h1 hlt)
/-- A part's lock is turned. -/
theorem CAt.part {w w' : World} {C : CB} {hv : Value} {c : Cs} {i p : Nat} {B : ShB} {s : SS} {o o' : Option Nat} (h : CAt w C hv c) (hp : C.ps[i]? = some p) (hB : C.Bs[i]? = some B) (hs : c.ss[i]? = some s) (hw : c.who[i]? = some o)
    (hf : Fr [p] w w') (hb : Blk w' p 63 [.pointer (some ⟨B.p, 0, none⟩), whoV o']) : CAt w' C hv { c with who := c.who.set i o' } := by
  have k0 := h.pt i p B s o hp hB hs hw
  obtain ⟨cs, h1, h2⟩ := h.row
  have hpm := List.mem_of_getElem? hp
  refine ⟨h.ok, Nat.le_trans h.n0 hf.size, h.sl, by simp [h.wl], h.blk.fr hf (by simp only [List.mem_singleton]; exact h.blk.ne k0.blk (by decide)), ⟨cs, h1.fr hf (by simp only [List.mem_singleton]; exact h1.ne k0.blk (by decide)), h2⟩, ?_, ?_⟩
  · intro k q B2 s2 o2 a1 a2 a3 a4
    rcases get_set a4 with ⟨rfl, rfl⟩ | ⟨hne, a4⟩
    · rw [hp] at a1; cases a1
      rw [hB] at a2; cases a2
      have a3' : c.ss[k]? = some s2 := a3
      rw [hs] at a3'; cases a3'
      exact ⟨hb, k0.sh.fr hf (fun x hx => by simp only [List.mem_singleton]; rintro rfl; exact (h.ok.pa B (List.mem_of_getElem? hB)).2.2 _ hpm hx), k0.hand⟩
    · have k := h.pt k q B2 s2 o2 a1 a2 a3 a4
      refine ⟨k.blk.fr hf ?_, k.sh.fr hf (fun x hx => by simp only [List.mem_singleton]; rintro rfl; exact (h.ok.pa B2 (List.mem_of_getElem? a2)).2.2 _ hpm hx), k.hand⟩
      simp only [List.mem_singleton]
      rintro rfl
      exact hne (nodup_get h.ok.nd a1 hp)
  · refine h.hist.noT hf (fun k hk => ?_) (noT_part k0.blk (by decide))
    obtain ⟨cs', hc⟩ := own_kblk h.hist.row hk
    simp only [List.mem_singleton]
    exact hc.ne k0.blk (by decide)
theorem step_nil (w : World) : Calls Try.prog 11 #[.pointer none] w fun r w' => r = .returned (.bool true) ∧ w' = w := by
  go_enter Try.func11, Try.ntmps11
  go_wp2
  go_ret
  exact ⟨rfl, rfl⟩
theorem step_done {w : World} {C : CB} {j : Jb} (hj : JAt w C j) (hl : j.left = []) : Calls Try.prog 11 #[.pointer (some ⟨j.p, 0, none⟩)] w fun r w' => r = .returned (.bool true) ∧ w' = w := by
  obtain ⟨A0, cl, hlv, hcl, -⟩ := hj.left.at_
  rw [hl] at hlv
  have j10 : w.cell? ⟨j.p, 10, none⟩ = some j.lv := hj.blk.cell (i := 10) rfl
  rw [hlv] at j10
  clear hj hl hlv hcl
  go_enter Try.func11, Try.ntmps11
  go_wp2
  go_ret
  exact ⟨rfl, rfl⟩
set_option maxRecDepth 100000 in
set_option maxHeartbeats 8000000 in
theorem step_wait {w : World} {C : CB} {hv : Value} {c : Cs} {j : Jb} {i : Nat} {rest : List Nat} {p : Nat} {B : ShB} {s : SS} (hc : CAt w C hv c) (hj : JAt w C j) (hl : j.left = i :: rest) (hp : C.ps[i]? = some p) (hB : C.Bs[i]? = some B) (hs : c.ss[i]? = some s) {k T : Nat} {cs0 : List Value} (hw : c.who[i]? = some (some k)) (hk : k ≠ j.p) (hkb : Blk w k T cs0) :
    Calls Try.prog 11 #[.pointer (some ⟨j.p, 0, none⟩)] w fun r w' => r = .returned (.bool false) ∧ w' = w := by
  obtain ⟨A0, cl, hlv, hcl, hle⟩ := hj.left.at_
  rw [hl] at hlv hcl hle
  obtain ⟨g, off, cs, rfl, hg, hgb, hgc⟩ := hle (by simp)
  have hg0 := hgc 0 i rfl
  have hgi : w.cell? ⟨g, off, none⟩ = some (.int .i64 i) := hgb.cell hg0
  have hpt := hc.pt i p B s (some k) hp hB hs hw
  obtain ⟨rs, hrow, hrc⟩ := hc.row
  have hri : w.cell? ⟨C.gp, i, none⟩ = some (.pointer (some ⟨p, 0, none⟩)) := hrow.cell (hrc i p hp)
  have hc0 : w.cell? ⟨C.pc, 0, none⟩ = some (.slice (some ⟨C.gp, 0, none⟩) C.ps.length C.cap) := hc.blk.cell (i := 0) rfl
  have hq1 : w.cell? ⟨p, 1, none⟩ = some (whoV (some k)) := hpt.blk.cell (i := 1) rfl
  have hqf : ∀ k, w.frozen? ⟨p, k, none⟩ = false := fun k => hpt.blk.free k
  have j0 : w.cell? ⟨j.p, 0, none⟩ = some (.pointer (some ⟨C.pc, 0, none⟩)) := hj.blk.cell (i := 0) rfl
  have j10 : w.cell? ⟨j.p, 10, none⟩ = some j.lv := hj.blk.cell (i := 10) rfl
  have j11 : w.cell? ⟨j.p, 11, none⟩ = some (.bool j.did) := hj.blk.cell (i := 11) rfl
  have jf : ∀ k, w.frozen? ⟨j.p, k, none⟩ = false := fun k => hj.blk.free k
  have hil : i < C.ps.length := (List.getElem?_eq_some_iff.1 hp).1
  have hn16 := hc.ok.n1
  rw [hlv] at j10
  simp only [List.length_cons] at j10 hcl
  unfold whoV at hq1
  have HC := Hd.mk hc
  have HJ := Hd.mk hj
  have HPT := Hd.mk hpt
  have HLC := Hd.mk hcl
  have HLV := Hd.mk hlv
  have HGC := Hd.mk (And.intro hg (And.intro hgb hgc))
  have HLL := Hd.mk hl
  have HPP := Hd.mk (And.intro hp (And.intro hB hs))
  have HW := Hd.mk hw
  clear hc hj hpt hrow hrc hgb hgc hg0 hlv hl hle hg hp hB hs hw
  have hnq := job_other hkb HJ.out.blk hk
  have hln : ((rest.length : Int) + 1 == 0) = false := by rw [beq_eq_false_iff_ne]; omega
  clear hkb hk
  go_enter Try.func11, Try.ntmps11
  go_wp2
  go_ret
  exact ⟨rfl, rfl⟩
set_option maxRecDepth 100000 in
set_option maxHeartbeats 8000000 in
theorem step_lock {w : World} {C : CB} {hv : Value} {c : Cs} {j : Jb} {i : Nat} {rest : List Nat} {p : Nat} {B : ShB} {s : SS} (hc : CAt w C hv c) (hj : JAt w C j) (hl : j.left = i :: rest) (hp : C.ps[i]? = some p) (hB : C.Bs[i]? = some B) (hs : c.ss[i]? = some s) (hw : c.who[i]? = some none) :
    Calls Try.prog 11 #[.pointer (some ⟨j.p, 0, none⟩)] w fun r w' => r = .returned (.bool false) ∧ CAt w' C hv { c with who := c.who.set i (some j.p) } ∧ JAt w' C j ∧ Fr [p] w w' := by
  obtain ⟨A0, cl, hlv, hcl, hle⟩ := hj.left.at_
  rw [hl] at hlv hcl hle
  obtain ⟨g, off, cs, rfl, hg, hgb, hgc⟩ := hle (by simp)
  have hg0 := hgc 0 i rfl
  have hgi : w.cell? ⟨g, off, none⟩ = some (.int .i64 i) := hgb.cell hg0
  have hpt := hc.pt i p B s none hp hB hs hw
  obtain ⟨rs, hrow, hrc⟩ := hc.row
  have hri : w.cell? ⟨C.gp, i, none⟩ = some (.pointer (some ⟨p, 0, none⟩)) := hrow.cell (hrc i p hp)
  have hc0 : w.cell? ⟨C.pc, 0, none⟩ = some (.slice (some ⟨C.gp, 0, none⟩) C.ps.length C.cap) := hc.blk.cell (i := 0) rfl
  have hq1 : w.cell? ⟨p, 1, none⟩ = some (whoV none) := hpt.blk.cell (i := 1) rfl
  have hqf : ∀ k, w.frozen? ⟨p, k, none⟩ = false := fun k => hpt.blk.free k
  have j0 : w.cell? ⟨j.p, 0, none⟩ = some (.pointer (some ⟨C.pc, 0, none⟩)) := hj.blk.cell (i := 0) rfl
  have j10 : w.cell? ⟨j.p, 10, none⟩ = some j.lv := hj.blk.cell (i := 10) rfl
  have j11 : w.cell? ⟨j.p, 11, none⟩ = some (.bool j.did) := hj.blk.cell (i := 11) rfl
  have jf : ∀ k, w.frozen? ⟨j.p, k, none⟩ = false := fun k => hj.blk.free k
  have hil : i < C.ps.length := (List.getElem?_eq_some_iff.1 hp).1
  have hn16 := hc.ok.n1
  rw [hlv] at j10
  simp only [List.length_cons] at j10 hcl
  unfold whoV at hq1
  have HC := Hd.mk hc
  have HJ := Hd.mk hj
  have HPT := Hd.mk hpt
  have HLC := Hd.mk hcl
  have HLV := Hd.mk hlv
  have HGC := Hd.mk (And.intro hg (And.intro hgb hgc))
  have HLL := Hd.mk hl
  have HPP := Hd.mk (And.intro hp (And.intro hB hs))
  have HW := Hd.mk hw
  clear hc hj hpt hrow hrc hgb hgc hg0 hlv hl hle hg hp hB hs hw
  have hln : ((rest.length : Int) + 1 == 0) = false := by rw [beq_eq_false_iff_ne]; omega
  simp only [Option.map_none] at hq1
  go_enter Try.func11, Try.ntmps11
  go_upto_region 16 with (fail)
  refine wp_name ?_; intro w1 hw1
  have hb : Blk w1 p 63 [.pointer (some ⟨B.p, 0, none⟩), whoV (some j.p)] := by rw [hw1]; exact HPT.out.blk.set 1 _
  have hf : Fr [p] w w1 := by rw [hw1]; exact fr_set
  clear hw1 hgi hri hc0 hq1 hqf j0 j10 j11 jf
  have HCC := Hd.mk (HC.out.part HPP.out.1 HPP.out.2.1 HPP.out.2.2 HW.out hf hb)
  have HJJ := Hd.mk (HJ.out.part HPT.out.blk hf)
  have HFF := Hd.mk hf
  have j10 : w1.cell? ⟨j.p, 10, none⟩ = some j.lv := HJJ.out.blk.cell (i := 10) rfl
  rw [HLV.out] at j10
  simp only [List.length_cons] at j10
  clear hf hb
  go_wp2
  go_ret
  exact ⟨rfl, HCC.out, HJJ.out, HFF.out⟩
end Go.Proofs.Ytogjfcmclfehkaa
namespace Go.Proofs.Ytogjfcmclfehkaa
open Go Go.RowKit Go.Proofs.MapL PPM Go.Proofs.YtogjfcmclfehkaaW.PrintWords

theorem CAt.out {w w' : World} {C : CB} {hv : Value} {c : Cs} {S : List Nat} (h : CAt w C hv c) (hf : Fr S w w') (h1 : ∀ k ∈ S, C.n0 ≤ k) (h2 : ∀ k, hv.ownBlock = some k → k ∉ S) (h3 : NoT w S 33) : CAt w' C hv c := by
  obtain ⟨cs, a1, a2⟩ := h.row
  have hn : ∀ k, k < C.n0 → k ∉ S := fun k hk hx => by have := h1 k hx; omega
  refine ⟨h.ok, Nat.le_trans h.n0 hf.size, h.sl, h.wl, h.blk.fr hf (hn _ h.ok.pc), ⟨cs, a1.fr hf (hn _ h.ok.gp), a2⟩, fun i p B s o b1 b2 b3 b4 => ?_, h.hist.noT hf h2 h3⟩
  have k := h.pt i p B s o b1 b2 b3 b4
  exact ⟨k.blk.fr hf (hn _ (h.ok.ps p (List.mem_of_getElem? b1))), k.sh.fr hf (fun x hx => hn x (h.ok.bs B (List.mem_of_getElem? b2) x hx)), k.hand⟩
/-- A job's own block is written. -/
theorem CAt.job {w w' : World} {C : CB} {hv : Value} {c : Cs} {j : Jb} (h : CAt w C hv c) (hj : JAt w C j) (hf : Fr [j.p] w w') : CAt w' C hv c := by
  refine h.out hf (by simp; exact hj.n0) (fun k hk => ?_) (NoT.cons hj.blk (by decide) NoT.nil)
  obtain ⟨cs', hc⟩ := own_kblk h.hist.row hk
  simp only [List.mem_singleton]
  exact hc.ne hj.blk (by decide)
set_option maxRecDepth 100000 in
set_option maxHeartbeats 8000000 in
theorem step_free {w : World} {C : CB} {hv : Value} {c : Cs} {j : Jb} {i : Nat} {rest : List Nat} {p : Nat} {B : ShB} {s : SS} (hc : CAt w C hv c) (hj : JAt w C j) (hl : j.left = i :: rest) (hp : C.ps[i]? = some p) (hB : C.Bs[i]? = some B) (hs : c.ss[i]? = some s) (hw : c.who[i]? = some (some j.p)) (hd : j.did = true) :
    Calls Try.prog 11 #[.pointer (some ⟨j.p, 0, none⟩)] w fun r w' => r = .returned (.bool (decide (rest = []))) ∧ CAt w' C hv { c with who := c.who.set i none } ∧ (∃ lv, JAt w' C { j with left := rest, did := false, lv := lv }) ∧ Fr [p, j.p] w w' := by
  obtain ⟨A0, cl, hlv, hcl, hle⟩ := hj.left.at_
  rw [hl] at hlv hcl hle
  obtain ⟨g, off, cs, rfl, hg, hgb, hgc⟩ := hle (by simp)
  have hg0 := hgc 0 i rfl
  have hgi : w.cell? ⟨g, off, none⟩ = some (.int .i64 i) := hgb.cell hg0
  have hpt := hc.pt i p B s (some j.p) hp hB hs hw
  obtain ⟨rs, hrow, hrc⟩ := hc.row
  have hri : w.cell? ⟨C.gp, i, none⟩ = some (.pointer (some ⟨p, 0, none⟩)) := hrow.cell (hrc i p hp)
  have hc0 : w.cell? ⟨C.pc, 0, none⟩ = some (.slice (some ⟨C.gp, 0, none⟩) C.ps.length C.cap) := hc.blk.cell (i := 0) rfl
  have hq1 : w.cell? ⟨p, 1, none⟩ = some (whoV (some j.p)) := hpt.blk.cell (i := 1) rfl
  have hqf : ∀ k, w.frozen? ⟨p, k, none⟩ = false := fun k => hpt.blk.free k
  have j0 : w.cell? ⟨j.p, 0, none⟩ = some (.pointer (some ⟨C.pc, 0, none⟩)) := hj.blk.cell (i := 0) rfl
  have j10 : w.cell? ⟨j.p, 10, none⟩ = some j.lv := hj.blk.cell (i := 10) rfl
  have j11 : w.cell? ⟨j.p, 11, none⟩ = some (.bool j.did) := hj.blk.cell (i := 11) rfl
  have jf : ∀ k, w.frozen? ⟨j.p, k, none⟩ = false := fun k => hj.blk.free k
  have hil : i < C.ps.length := (List.getElem?_eq_some_iff.1 hp).1
  have hn16 := hc.ok.n1
  rw [hlv] at j10
  simp only [List.length_cons] at j10 hcl
  unfold whoV at hq1
  have HC := Hd.mk hc
  have HJ := Hd.mk hj
  have HPT := Hd.mk hpt
  have HLC := Hd.mk hcl
  have HLV := Hd.mk hlv
  have HGC := Hd.mk (And.intro hg (And.intro hgb hgc))
  have HLL := Hd.mk hl
  have HPP := Hd.mk (And.intro hp (And.intro hB hs))
  have HW := Hd.mk hw
  clear hc hj hpt hrow hrc hgb hgc hg0 hlv hl hle hg hp hB hs hw
  have hln : ((rest.length : Int) + 1 == 0) = false := by rw [beq_eq_false_iff_ne]; omega
  simp only [Option.map_some] at hq1
  rw [hd] at j11
  have hnq := fun w => job_same w j.p
  go_enter Try.func11, Try.ntmps11
  go_upto_region 6 with (fail)
  refine wp_name ?_; intro w1 hw1
  have HPJ : Hd (p ≠ j.p) := Hd.mk (HPT.out.blk.ne HJ.out.blk (by decide))
  have hb : Blk w1 p 63 [.pointer (some ⟨B.p, 0, none⟩), whoV none] := by rw [hw1]; exact (HPT.out.blk.set 1 _).fr fr_set (by simp; exact HPJ.out)
  have hjb : Blk w1 j.p 66 [.pointer (some ⟨C.pc, 0, none⟩), .int .i64 j.d.kind, .string j.d.e.q.name, .int .u16 j.d.e.q.ty, .int .u16 j.d.e.q.cl, .slice j.d.e.ra j.d.e.rn j.d.e.rc, .int .i64 j.d.e.rcode, .int .i64 j.d.e.rank, .int .u64 j.d.e.expire, .int .u64 j.d.now, j.lv, .bool false, j.vv] := by rw [hw1]; exact (HJ.out.blk.fr fr_set (by simp; exact Ne.symm HPJ.out)).set 11 _
  have hff : Fr [p, j.p] w w1 := by rw [hw1]; exact (fr_set.mono (by simp)).trans (fr_set.mono (by simp))
  have HCC : Hd (CAt w1 C hv { c with who := c.who.set i none }) := Hd.mk (by
    rw [hw1]
    have h1 := HC.out.part (o' := none) HPP.out.1 HPP.out.2.1 HPP.out.2.2 HW.out fr_set (HPT.out.blk.set 1 (.pointer none))
    have h2 := HJ.out.part HPT.out.blk (fr_set (i := 1) (v := .pointer none))
    exact h1.job h2 fr_set)
  have HJB := Hd.mk hjb
  have HFF := Hd.mk hff
  have HGB : Hd (Blk w1 g 3 cs) := Hd.mk (by
    refine HGC.out.2.1.fr hff ?_
    simp only [List.mem_cons, List.not_mem_nil, or_false, not_or]
    exact ⟨HGC.out.2.1.ne HPT.out.blk (by decide), HGC.out.2.1.ne HJ.out.blk (by decide)⟩)
  have HEV : Hd (EvRow w1 C.n0 j.vv j.ev) := Hd.mk (HJ.out.ev.noT hff (fun k hk hx => by
    obtain ⟨cs', hc⟩ := own_kblk HJ.out.ev.row hk
    simp only [List.mem_cons, List.not_mem_nil, or_false] at hx
    rcases hx with rfl | rfl
    · exact (hc.ne HPT.out.blk (by decide)) rfl
    · exact (hc.ne HJ.out.blk (by decide)) rfl) (NoT.cons HPT.out.blk (by decide) (NoT.cons HJ.out.blk (by decide) NoT.nil)))
  clear hw1 hgi hri hc0 hq1 hqf j0 j10 j11 jf hb hff hnq
  have j10 : w1.cell? ⟨j.p, 10, none⟩ = some j.lv := hjb.cell (i := 10) rfl
  have jf : ∀ k, w1.frozen? ⟨j.p, k, none⟩ = false := fun k => hjb.free k
  rw [HLV.out] at j10
  simp only [List.length_cons] at j10
  clear hjb
  go_upto_region 16 with (fail)
  refine wp_name ?_; intro w2 hw2
  have HJP : Hd (JAt w1 C { j with did := false }) := Hd.mk ⟨HJ.out.n0, HJB.out, ⟨.some ⟨g, off, none⟩, cl, by rw [HLV.out, HLL.out], by rw [HLL.out]; exact HLC.out, fun _ => ⟨g, off, cs, rfl, HGC.out.1, HGB.out, by rw [HLL.out]; exact HGC.out.2.2⟩⟩, HEV.out, HJ.out.ok, HJ.out.kd, HJ.out.te, HJ.out.tn⟩
  obtain ⟨nv, hnv⟩ : ∃ v : Value, v = .slice (if cl = 1 then some ⟨g, off, none⟩ else some ⟨g, off + 1, none⟩) rest.length (cl - 1) := ⟨_, rfl⟩
  have hw2' : w2 = w1.setCell ⟨j.p, 10, none⟩ nv := by rw [hw2, hnv]
  have hjb2 : Blk w2 j.p 66 [.pointer (some ⟨C.pc, 0, none⟩), .int .i64 j.d.kind, .string j.d.e.q.name, .int .u16 j.d.e.q.ty, .int .u16 j.d.e.q.cl, .slice j.d.e.ra j.d.e.rn j.d.e.rc, .int .i64 j.d.e.rcode, .int .i64 j.d.e.rank, .int .u64 j.d.e.expire, .int .u64 j.d.now, nv, .bool false, j.vv] := by rw [hw2']; exact HJB.out.set 10 _
  have hf2 : Fr [j.p] w1 w2 := by rw [hw2']; exact fr_set
  have HC2 := Hd.mk (HCC.out.job HJP.out hf2)
  have HJ2 : Hd (JAt w2 C { j with left := rest, did := false, lv := nv }) := Hd.mk (by
    have hj1 := HJP.out
    refine ⟨hj1.n0, hjb2, ⟨_, cl - 1, hnv, (show rest.length ≤ cl - 1 by have := HLC.out; omega), fun h0 => ⟨g, off + 1, cs, ?_, HGC.out.1, HGB.out.fr hf2 (by simp only [List.mem_singleton]; exact HGC.out.2.1.ne HJ.out.blk (by decide)), fun k x hx => ?_⟩⟩, ?_, fun k hk => hj1.ok k (by show k ∈ j.left; rw [HLL.out]; exact List.mem_cons_of_mem _ hk), hj1.kd, hj1.te, hj1.tn⟩
    · have h1 := HLC.out
      have h2 : 0 < rest.length := h0
      rw [if_neg (by omega)]
    · have := HGC.out.2.2 (k + 1) x hx
      rw [Nat.add_assoc, Nat.add_comm 1 k]; exact this
    · refine HEV.out.noT hf2 (fun k hk hx => ?_) (NoT.cons HJB.out (by decide) NoT.nil)
      obtain ⟨cs', hc⟩ := own_kblk HEV.out.row hk
      simp only [List.mem_singleton] at hx
      subst hx
      exact (hc.ne HJB.out (by decide)) rfl)
  have HF2 : Hd (Fr [p, j.p] w w2) := Hd.mk (HFF.out.trans (hf2.mono (by simp)))
  have j12 : w2.cell? ⟨j.p, 10, none⟩ = some nv := hjb2.cell (i := 10) rfl
  obtain ⟨A', hA'⟩ : ∃ A : Option Addr, (if cl = 1 then some ⟨g, off, none⟩ else some ⟨g, off + 1, none⟩) = A := ⟨_, rfl⟩
  rw [hnv, hA'] at j12
  have he : ((rest.length : Int) == 0) = decide (rest = []) := by cases rest <;> simp; omega
  clear hw2 hw2' hjb2 hf2 j10 jf hd hA' hnv
  go_wp2
  all_goals (go_ret; exact ⟨rfl, HC2.out, ⟨nv, HJ2.out⟩, HF2.out⟩)
end Go.Proofs.Ytogjfcmclfehkaa
namespace Go.Proofs.Ytogjfcmclfehkaa
open Go Go.RowKit Go.Proofs.MapL PPM Go.Proofs.YtogjfcmclfehkaaW.PrintWords

/-- append of one element that lies in a block of its own. -/
theorem wpList_app1b {P : Program} {t E : TypeId} {z : Value} {size bytes : Nat} (el : Elem P t E z size bytes)
    {ops : Array Oper} {rest : List Oper} {o : Oper} {a : Act} {Q : Exit → Act → World → Prop} {W : World} (hgd : o.guard = none) (s x : Operand)
    (ho : o.op = .call { callee := .builtin .append, args := #[s, x], argTypes := #[t, t] })
    {base : Nat} {v : Value} {n : Nat} {xs : List Value} (hown : W.ownsRow base E size v n xs) (hs : a.eval s = v)
    {T sb : Nat} (us : List Value) (hsb : Blk W sb T us) (hx : a.eval x = .slice (some ⟨sb, 0, none⟩) 1 1) (hl : us.length = size) (h1 : ∀ u ∈ us, u.oneCell' = true)
    (h63 : n + 1 ≤ 9223372036854775807) (hbytes : (n + 1) * bytes ≤ 140737488355328) (hbase : base ≤ W.heap.size)
    (h : ∀ g c w', w'.ownsRow base E size (.slice (some ⟨g, 0, none⟩) (n + 1) c) (n + 1) (xs ++ us) → Fr v.ownBlock.toList W w' → base ≤ g → g < w'.heap.size →
      (v.ownBlock = some g ∨ W.heap.size ≤ g) → wpList P ops Q rest (a.put o.dst (.slice (some ⟨g, 0, none⟩) (n + 1) c)) w') :
    wpList P ops Q (o :: rest) a W := by
  obtain ⟨i, hi, hz, hsz, hb⟩ := info_parts el.info
  have hnews : ∀ j u, us[j]? = some u → W.cell? ((⟨sb, 0, none⟩ : Addr).add j) = some u := by
    intro j u hj
    have e : (⟨sb, 0, none⟩ : Addr).add j = ⟨sb, j, none⟩ := by unfold Addr.add; split <;> simp_all
    rw [e]
    exact hsb.cell hj
  by_cases hroom : ∃ g cap, v = .slice (some ⟨g, 0, none⟩) n cap ∧ n + 1 ≤ cap
  · obtain ⟨g, cap, rfl, hcap⟩ := hroom
    obtain ⟨w', hrun, h2, h3⟩ := run_append_fits (P := P) W base t o.type E i size el.ut hi hsz g n cap xs hown ⟨sb, 0, none⟩ 1 1 us (by simpa using hl) hnews h1 hcap
    refine wpList_plain hgd fun K hK => ?_
    unfold Oper.wp
    simp [execOp, ho, resolve, invoke, builtin, hs, hx, hrun, Result.andThen]
    have hlt := hown.lt g rfl
    exact hK _ _ (h g cap w' h2 (Fr.of_grown h3) hlt.1 (by have := h3.size; omega) (.inl rfl))
  · rcases hown.2 with ⟨rfl, rfl⟩ | ⟨g, cap, cur, rfl, hbg, hg, hnc, hcm, hcs, htake⟩
    · have hx0 : xs = [] := List.eq_nil_of_length_eq_zero (by simpa using hown.1)
      subst hx0
      refine wpList_append_grows _ hgd s x t ho E i z size bytes el.ut hi hz hsz hb el.zs el.pos none 0 0 [] hs (by simp) (by simp) (by simp) ⟨sb, 0, none⟩ 1 1 us hx (by simpa using hl) hnews h1 (by omega) (by simp [maxLen]) (by simpa using hbytes) ?_
      intro v' w' h2 h3
      obtain ⟨g', c', rfl, h4, h5⟩ := own_form h2 (by omega)
      exact h g' c' w' (own_base h2 hbase) ((Fr.of_grown h3).mono (by simp)) (by omega) h5 (.inr (by omega))
    · have hfull : cap < n + 1 := by
        rcases Nat.lt_or_ge cap (n + 1) with h' | h'
        · exact h'
        · exact absurd ⟨g, cap, rfl, h'⟩ hroom
      refine wpList_append_grows _ hgd s x t ho E i z size bytes el.ut hi hz hsz hb el.zs el.pos (some ⟨g, 0, none⟩) n cap xs hs (by simp) hown.1 (fun b hb' => by simp at hb'; subst hb'; exact own_cells hown) ⟨sb, 0, none⟩ 1 1 us hx (by simpa using hl) hnews h1 hfull h63 hbytes ?_
      intro v' w' h2 h3
      obtain ⟨g', c', rfl, h4, h5⟩ := own_form h2 (by omega)
      exact h g' c' w' (own_base h2 hbase) ((Fr.of_grown h3).mono (by simp)) (by omega) h5 (.inr (by omega))
theorem elEv : Elem Try.prog 42 47 (.agg #[.int .i64 0, .string ⟨#[]⟩, .int .u16 0, .int .u16 0, .slice none 0 0, .int .i64 0, .int .i64 0, .int .u64 0, .int .u64 0, .int .i64 0, .string ⟨#[]⟩, .int .u16 0, .int .u16 0, .slice none 0 0, .int .i64 0, .int .i64 0, .int .u64 0, .bool false, .int .i64 0, .slice none 0 0]) 20 208 := ⟨by kernel_rfl, by kernel_rfl, rfl, by omega⟩
theorem ShE.hand {w : World} {B : ShB} {s : SS} (h : ShE w B s) : s.hand < s.l.length := by obtain ⟨tu, h⟩ := h; exact h.w.sl.hand
/-- A shard's own step. -/
theorem CAt.shard {w w' : World} {C : CB} {hv : Value} {c : Cs} {i p : Nat} {B : ShB} {s s' : SS} {o : Option Nat} (h : CAt w C hv c) (hp : C.ps[i]? = some p) (hB : C.Bs[i]? = some B) (hs : c.ss[i]? = some s) (hw : c.who[i]? = some o)
    (hf : Fr B.wr w w') (hs' : ShE w' B s') : CAt w' C hv { c with ss := c.ss.set i s' } := by
  have k0 := h.pt i p B s o hp hB hs hw
  obtain ⟨cs, h1, h2⟩ := h.row
  have hBm := List.mem_of_getElem? hB
  have hpa := h.ok.pa B hBm
  have hn : ∀ k, k ∉ B.all → k ∉ B.wr := fun k hk hx => hk (B.wr_all k hx)
  refine ⟨h.ok, Nat.le_trans h.n0 hf.size, by simp [h.sl], h.wl, h.blk.fr hf (hn _ hpa.1), ⟨cs, h1.fr hf (hn _ hpa.2.1), h2⟩, ?_, ?_⟩
  · intro k q B2 s2 o2 a1 a2 a3 a4
    rcases get_set a3 with ⟨rfl, rfl⟩ | ⟨hne, a3⟩
    · rw [hp] at a1; cases a1
      rw [hB] at a2; cases a2
      have a4' : c.who[k]? = some o2 := a4
      rw [hw] at a4'; cases a4'
      exact ⟨k0.blk.fr hf (hn _ (hpa.2.2 _ (List.mem_of_getElem? hp))), hs', hs'.hand⟩
    · have k1 := h.pt k q B2 s2 o2 a1 a2 a3 a4
      exact ⟨k1.blk.fr hf (hn _ (hpa.2.2 _ (List.mem_of_getElem? a1))), k1.sh.fr hf (fun x hx hy => h.ok.ap k i B2 B a2 hB hne x hx (B.wr_all x hy)), k1.hand⟩
  · refine h.hist.noT hf (fun k hk => ?_) (NoT.wr k0.sh (by decide) (by decide) (by decide))
    obtain ⟨cs', hc⟩ := own_kblk h.hist.row hk
    exact blk_apart k0.sh hc (by decide) (by decide) (by decide)
theorem JAt.shard {w w' : World} {C : CB} {j : Jb} {B : ShB} {s : SS} (h : JAt w C j) (hs : ShE w B s) (hf : Fr B.wr w w') : JAt w' C j := by
  refine h.fr hf (blk_apart hs h.blk (by decide) (by decide) (by decide)) (NoT.wr hs (by decide) (by decide) (by decide)) (NoT.wr hs (by decide) (by decide) (by decide)) fun k hk => ?_
  obtain ⟨cs', hc⟩ := own_kblk h.ev.row hk
  exact blk_apart hs hc (by decide) (by decide) (by decide)
end Go.Proofs.Ytogjfcmclfehkaa
namespace Go.Proofs.Ytogjfcmclfehkaa
open Go Go.RowKit

/-! A new event: built, and stored whole. -/
theorem built_ev (k : Int) (n : ByteArray) (ty cl : Int) (A : Option Addr) (rn rc : Nat) (r1 r2 ex now i : Int) : Try.prog.built 47 [(0, .agg #[.int .i64 k, .string n, .int .u16 ty, .int .u16 cl, .slice A rn rc, .int .i64 r1, .int .i64 r2, .int .u64 ex, .int .u64 now]), (1, .int .i64 i)] = some #[.int .i64 k, .string n, .int .u16 ty, .int .u16 cl, .slice A rn rc, .int .i64 r1, .int .i64 r2, .int .u64 ex, .int .u64 now, .int .i64 i, .string ⟨#[]⟩, .int .u16 0, .int .u16 0, .slice none 0 0, .int .i64 0, .int .i64 0, .int .u64 0, .bool false, .int .i64 0, .slice none 0 0] := by kernel_rfl
theorem build_ev (k : Int) (n : ByteArray) (ty cl : Int) (A : Option Addr) (rn rc : Nat) (r1 r2 ex now i : Int) (w : World) : (Instr.build 47 #[(0, .agg #[.int .i64 k, .string n, .int .u16 ty, .int .u16 cl, .slice A rn rc, .int .i64 r1, .int .i64 r2, .int .u64 ex, .int .u64 now]), (1, .int .i64 i)]).run Try.prog w = .ok (.agg #[.int .i64 k, .string n, .int .u16 ty, .int .u16 cl, .slice A rn rc, .int .i64 r1, .int .i64 r2, .int .u64 ex, .int .u64 now, .int .i64 i, .string ⟨#[]⟩, .int .u16 0, .int .u16 0, .slice none 0 0, .int .i64 0, .int .i64 0, .int .u64 0, .bool false, .int .i64 0, .slice none 0 0]) w := run_build w _ _ _ (built_ev k n ty cl A rn rc r1 r2 ex now i)
theorem store_ev (k : Int) (n : ByteArray) (ty cl : Int) (A : Option Addr) (rn rc : Nat) (r1 r2 ex now i : Int) (w : World) : (Instr.storeAt 47 (.pointer (some ⟨w.heap.size, 0, none⟩)) (.agg #[.int .i64 k, .string n, .int .u16 ty, .int .u16 cl, .slice A rn rc, .int .i64 r1, .int .i64 r2, .int .u64 ex, .int .u64 now, .int .i64 i, .string ⟨#[]⟩, .int .u16 0, .int .u16 0, .slice none 0 0, .int .i64 0, .int .i64 0, .int .u64 0, .bool false, .int .i64 0, .slice none 0 0])).run Try.prog (w.alloc (.cells #[.int .i64 0, .string ⟨#[]⟩, .int .u16 0, .int .u16 0, .slice none 0 0, .int .i64 0, .int .i64 0, .int .u64 0, .int .u64 0, .int .i64 0, .string ⟨#[]⟩, .int .u16 0, .int .u16 0, .slice none 0 0, .int .i64 0, .int .i64 0, .int .u64 0, .bool false, .int .i64 0, .slice none 0 0] 47)) = .ok () (w.alloc (.cells #[.int .i64 k, .string n, .int .u16 ty, .int .u16 cl, .slice A rn rc, .int .i64 r1, .int .i64 r2, .int .u64 ex, .int .u64 now, .int .i64 i, .string ⟨#[]⟩, .int .u16 0, .int .u16 0, .slice none 0 0, .int .i64 0, .int .i64 0, .int .u64 0, .bool false, .int .i64 0, .slice none 0 0] 47)) :=
  run_storeAt_new w 47 _ _ (by kernel_rfl) rfl (by simp [Value.oneCell'])
theorem builtS_ev (k : Int) (n : ByteArray) (ty cl : Int) (A : Option Addr) (rn rc : Nat) (r1 r2 ex now i : Int) (n2 : ByteArray) (ty2 cl2 : Int) (A2 : Option Addr) (rn2 rc2 : Nat) (q1 q2 ex2 : Int) (is : Bool) (err : Int) (A3 : Option Addr) (gn gc : Nat) : Try.prog.builtSlice 47 1 [(0, .agg #[.int .i64 k, .string n, .int .u16 ty, .int .u16 cl, .slice A rn rc, .int .i64 r1, .int .i64 r2, .int .u64 ex, .int .u64 now, .int .i64 i, .string n2, .int .u16 ty2, .int .u16 cl2, .slice A2 rn2 rc2, .int .i64 q1, .int .i64 q2, .int .u64 ex2, .bool is, .int .i64 err, .slice A3 gn gc])] = some #[.int .i64 k, .string n, .int .u16 ty, .int .u16 cl, .slice A rn rc, .int .i64 r1, .int .i64 r2, .int .u64 ex, .int .u64 now, .int .i64 i, .string n2, .int .u16 ty2, .int .u16 cl2, .slice A2 rn2 rc2, .int .i64 q1, .int .i64 q2, .int .u64 ex2, .bool is, .int .i64 err, .slice A3 gn gc] := by kernel_rfl
set_option maxRecDepth 100000 in
theorem wpList_bs_ev {ops : Array Oper} {rest : List Oper} {o : Oper} {a : Act} {w : World} {Q : Exit → Act → World → Prop} (hg : o.guard = none) (t t2 : Nat) (ho : o.op = .buildSlice 42 1 #[(0, .tmp t)]) (hd : o.dst = some t2) (k : Int) (n : ByteArray) (ty cl : Int) (A : Option Addr) (rn rc : Nat) (r1 r2 ex now i : Int) (n2 : ByteArray) (ty2 cl2 : Int) (A2 : Option Addr) (rn2 rc2 : Nat) (q1 q2 ex2 : Int) (is : Bool) (err : Int) (A3 : Option Addr) (gn gc : Nat)
    (hv : a.eval (.tmp t) = .agg #[.int .i64 k, .string n, .int .u16 ty, .int .u16 cl, .slice A rn rc, .int .i64 r1, .int .i64 r2, .int .u64 ex, .int .u64 now, .int .i64 i, .string n2, .int .u16 ty2, .int .u16 cl2, .slice A2 rn2 rc2, .int .i64 q1, .int .i64 q2, .int .u64 ex2, .bool is, .int .i64 err, .slice A3 gn gc]) (h : wpList Try.prog ops Q rest (a.put (some t2) (.slice (some ⟨w.heap.size, 0, none⟩) 1 1)) (w.alloc (.cells #[.int .i64 k, .string n, .int .u16 ty, .int .u16 cl, .slice A rn rc, .int .i64 r1, .int .i64 r2, .int .u64 ex, .int .u64 now, .int .i64 i, .string n2, .int .u16 ty2, .int .u16 cl2, .slice A2 rn2 rc2, .int .i64 q1, .int .i64 q2, .int .u64 ex2, .bool is, .int .i64 err, .slice A3 gn gc] 47))) : wpList Try.prog ops Q (o :: rest) a w :=
  Great.wpList_buildSliceTo hg 42 47 1 _ ho _ rfl _ hd Try.underlying42 #[.int .i64 k, .string n, .int .u16 ty, .int .u16 cl, .slice A rn rc, .int .i64 r1, .int .i64 r2, .int .u64 ex, .int .u64 now, .int .i64 i, .string n2, .int .u16 ty2, .int .u16 cl2, .slice A2 rn2 rc2, .int .i64 q1, .int .i64 q2, .int .u64 ex2, .bool is, .int .i64 err, .slice A3 gn gc] (by
    simp only [List.map_toArray, List.map_cons, List.map_nil, hv]
    exact builtS_ev k n ty cl A rn rc r1 r2 ex now i n2 ty2 cl2 A2 rn2 rc2 q1 q2 ex2 is err A3 gn gc) h
end Go.Proofs.Ytogjfcmclfehkaa
namespace Go.Proofs.Ytogjfcmclfehkaa
open Go Go.RowKit Go.Proofs.MapL PPM Go.Proofs.YtogjfcmclfehkaaW.PrintWords

theorem CAt.told {w w' : World} {C : CB} {hv hv' : Value} {c : Cs} {l : List Ev} (h : CAt w C hv c) (hf : Fr (C.pc :: hv.ownBlock.toList) w w') (hb : Blk w' C.pc 58 [.slice (some ⟨C.gp, 0, none⟩) C.ps.length C.cap, hv']) (he : EvRow w' C.n0 hv' l) : CAt w' C hv' { c with hist := l } := by
  obtain ⟨cs, h1, h2⟩ := h.row
  have ho : ∀ k, hv.ownBlock = some k → C.n0 ≤ k := fun k hk => (h.hist.row.lt k hk).1
  have hn : ∀ k, k < C.n0 → k ≠ C.pc → k ∉ C.pc :: hv.ownBlock.toList := by
    intro k hk hp hx
    rcases List.mem_cons.1 hx with e | hx
    · exact hp e
    · have := ho k (by simpa using hx); omega
  refine ⟨h.ok, Nat.le_trans h.n0 hf.size, h.sl, h.wl, hb, ⟨cs, h1.fr hf (hn _ h.ok.gp (h1.ne h.blk (by decide))), h2⟩, fun i p B s o a1 a2 a3 a4 => ?_, he⟩
  have k := h.pt i p B s o a1 a2 a3 a4
  have hBm := List.mem_of_getElem? a2
  exact ⟨k.blk.fr hf (hn _ (h.ok.ps p (List.mem_of_getElem? a1)) (k.blk.ne h.blk (by decide))), k.sh.fr hf (fun x hx => hn x (h.ok.bs B hBm x hx) (fun e => (h.ok.pa B hBm).1 (e ▸ hx))), k.hand⟩
theorem JAt.did {w w' : World} {C : CB} {j : Jb} {b : Bool} (h : JAt w C j) (hb : Blk w' j.p 66 [.pointer (some ⟨C.pc, 0, none⟩), .int .i64 j.d.kind, .string j.d.e.q.name, .int .u16 j.d.e.q.ty, .int .u16 j.d.e.q.cl, .slice j.d.e.ra j.d.e.rn j.d.e.rc, .int .i64 j.d.e.rcode, .int .i64 j.d.e.rank, .int .u64 j.d.e.expire, .int .u64 j.d.now, j.lv, .bool b, j.vv]) (hf : Fr [j.p] w w') : JAt w' C { j with did := b } := by
  refine ⟨h.n0, hb, h.left.noT hf (NoT.cons h.blk (by decide) NoT.nil), h.ev.noT hf (fun k hk => ?_) (NoT.cons h.blk (by decide) NoT.nil), h.ok, h.kd, h.te, h.tn⟩
  obtain ⟨cs', hc⟩ := own_kblk h.ev.row hk
  simp only [List.mem_singleton]
  exact hc.ne h.blk (by decide)
def StepDo (w : World) (C : CB) (hv : Value) (c : Cs) (j : Jb) (i : Nat) (s : SS) (B : ShB) (r : Ending) (w' : World) : Prop := ∃ hv' vv' gv, r = .returned (.bool false) ∧ CAt w' C hv' { ss := c.ss.set i (doneS s j.d), who := c.who, hist := c.hist ++ [⟨j.d, i, doneT s j.d, gv⟩] } ∧ JAt w' C { j with did := true, ev := j.ev ++ [⟨j.d, i, doneT s j.d, gv⟩], vv := vv' } ∧ Fr (j.p :: C.pc :: (hv.ownBlock.toList ++ j.vv.ownBlock.toList ++ B.wr)) w w' ∧ (∀ k, hv'.ownBlock = some k → hv.ownBlock = some k ∨ w.heap.size ≤ k) ∧ (∀ k, vv'.ownBlock = some k → j.vv.ownBlock = some k ∨ w.heap.size ≤ k) ∧ (∀ k, hv'.ownBlock = some k → vv'.ownBlock ≠ some k)
set_option maxRecDepth 100000 in
set_option maxHeartbeats 8000000 in
theorem step_do {w : World} {C : CB} {hv : Value} {c : Cs} {j : Jb} {i : Nat} {rest : List Nat} {p : Nat} {B : ShB} {s : SS} (hc : CAt w C hv c) (hj : JAt w C j) (hl : j.left = i :: rest) (hp : C.ps[i]? = some p) (hB : C.Bs[i]? = some B) (hs : c.ss[i]? = some s) (hw : c.who[i]? = some (some j.p)) (hd : j.did = false) (hhl : c.hist.length < 1000000) (hel : j.ev.length < 1000000) (hne : ∀ k, hv.ownBlock = some k → j.vv.ownBlock ≠ some k) :
    Calls Try.prog 11 #[.pointer (some ⟨j.p, 0, none⟩)] w fun r w' => StepDo w C hv c j i s B r w' := by
  obtain ⟨A0, cl, hlv, hcl, hle⟩ := hj.left.at_
  rw [hl] at hlv hcl hle
  obtain ⟨g, off, cs, rfl, hg, hgb, hgc⟩ := hle (by simp)
  have hg0 := hgc 0 i rfl
  have hgi : w.cell? ⟨g, off, none⟩ = some (.int .i64 i) := hgb.cell hg0
  have hpt := hc.pt i p B s (some j.p) hp hB hs hw
  obtain ⟨rs, hrow, hrc⟩ := hc.row
  have hri : w.cell? ⟨C.gp, i, none⟩ = some (.pointer (some ⟨p, 0, none⟩)) := hrow.cell (hrc i p hp)
  have hc0 : w.cell? ⟨C.pc, 0, none⟩ = some (.slice (some ⟨C.gp, 0, none⟩) C.ps.length C.cap) := hc.blk.cell (i := 0) rfl
  have hq1 : w.cell? ⟨p, 1, none⟩ = some (whoV (some j.p)) := hpt.blk.cell (i := 1) rfl
  have hqf : ∀ k, w.frozen? ⟨p, k, none⟩ = false := fun k => hpt.blk.free k
  have j0 : w.cell? ⟨j.p, 0, none⟩ = some (.pointer (some ⟨C.pc, 0, none⟩)) := hj.blk.cell (i := 0) rfl
  have j10 : w.cell? ⟨j.p, 10, none⟩ = some j.lv := hj.blk.cell (i := 10) rfl
  have j11 : w.cell? ⟨j.p, 11, none⟩ = some (.bool j.did) := hj.blk.cell (i := 11) rfl
  have jf : ∀ k, w.frozen? ⟨j.p, k, none⟩ = false := fun k => hj.blk.free k
  have hil : i < C.ps.length := (List.getElem?_eq_some_iff.1 hp).1
  have hn16 := hc.ok.n1
  rw [hlv] at j10
  simp only [List.length_cons] at j10 hcl
  unfold whoV at hq1
  have HC := Hd.mk hc
  have HJ := Hd.mk hj
  have HPT := Hd.mk hpt
  have HLC := Hd.mk hcl
  have HLV := Hd.mk hlv
  have HGC := Hd.mk (And.intro hg (And.intro hgb hgc))
  have HLL := Hd.mk hl
  have HPP := Hd.mk (And.intro hp (And.intro hB hs))
  have HW := Hd.mk hw
  clear hc hj hpt hrow hrc hgb hgc hg0 hlv hl hle hg hp hB hs hw
  have hln : ((rest.length : Int) + 1 == 0) = false := by rw [beq_eq_false_iff_ne]; omega
  simp only [Option.map_some] at hq1
  rw [hd] at j11
  have hnq := fun w => job_same w j.p
  have HJL := Hd.mk (And.intro hhl (And.intro hel hne))
  obtain ⟨jd1, jd2, jd3, jd4, jd5, jd6, jd7, jd8, jd9⟩ : w.cell? ⟨j.p, 1, none⟩ = some (.int .i64 j.d.kind) ∧ w.cell? ⟨j.p, 2, none⟩ = some (.string j.d.e.q.name) ∧ w.cell? ⟨j.p, 3, none⟩ = some (.int .u16 j.d.e.q.ty) ∧ w.cell? ⟨j.p, 4, none⟩ = some (.int .u16 j.d.e.q.cl) ∧ w.cell? ⟨j.p, 5, none⟩ = some (.slice j.d.e.ra j.d.e.rn j.d.e.rc) ∧ w.cell? ⟨j.p, 6, none⟩ = some (.int .i64 j.d.e.rcode) ∧ w.cell? ⟨j.p, 7, none⟩ = some (.int .i64 j.d.e.rank) ∧ w.cell? ⟨j.p, 8, none⟩ = some (.int .u64 j.d.e.expire) ∧ w.cell? ⟨j.p, 9, none⟩ = some (.int .u64 j.d.now) := ⟨HJ.out.blk.cell rfl, HJ.out.blk.cell rfl, HJ.out.blk.cell rfl, HJ.out.blk.cell rfl, HJ.out.blk.cell rfl, HJ.out.blk.cell rfl, HJ.out.blk.cell rfl, HJ.out.blk.cell rfl, HJ.out.blk.cell rfl⟩
  go_enter Try.func11, Try.ntmps11
  go_upto_region 12 with (refine wpList_store_row rfl 47 (.tmp 5) (.tmp 74) rfl w.heap.size #[.int .i64 j.d.kind, .string j.d.e.q.name, .int .u16 j.d.e.q.ty, .int .u16 j.d.e.q.cl, .slice j.d.e.ra j.d.e.rn j.d.e.rc, .int .i64 j.d.e.rcode, .int .i64 j.d.e.rank, .int .u64 j.d.e.expire, .int .u64 j.d.now, .int .i64 i, .string ⟨#[]⟩, .int .u16 0, .int .u16 0, .slice none 0 0, .int .i64 0, .int .i64 0, .int .u64 0, .bool false, .int .i64 0, .slice none 0 0] rfl rfl 47 #[.int .i64 0, .string ⟨#[]⟩, .int .u16 0, .int .u16 0, .slice none 0 0, .int .i64 0, .int .i64 0, .int .u64 0, .int .u64 0, .int .i64 0, .string ⟨#[]⟩, .int .u16 0, .int .u16 0, .slice none 0 0, .int .i64 0, .int .i64 0, .int .u64 0, .bool false, .int .i64 0, .slice none 0 0] (heap_alloc_last w _) (by kernel_rfl) rfl (by simp [Value.oneCell']) ?_; rw [World.setRow_alloc_new])
  refine wp_name ?_; intro w1 hw1
  have hf1 := alloc_of hw1
  have hx1 := blk_of (T := 47) (c := [.int .i64 j.d.kind, .string j.d.e.q.name, .int .u16 j.d.e.q.ty, .int .u16 j.d.e.q.cl, .slice j.d.e.ra j.d.e.rn j.d.e.rc, .int .i64 j.d.e.rcode, .int .i64 j.d.e.rank, .int .u64 j.d.e.expire, .int .u64 j.d.now, .int .i64 i, .string ⟨#[]⟩, .int .u16 0, .int .u16 0, .slice none 0 0, .int .i64 0, .int .i64 0, .int .u64 0, .bool false, .int .i64 0, .slice none 0 0]) hw1
  clear hw1 hgi hri hc0 hq1 hqf j0 j10 j11 jf hnq jd1 jd2 jd3 jd4 jd5 jd6 jd7 jd8 jd9
  obtain ⟨xe, h_xe⟩ : ∃ x, w.heap.size = x := ⟨_, rfl⟩
  rw [h_xe] at hx1 ⊢
  have hxe : Blk w1 xe 47 (evc j.d i zeroEn false 0 (.slice none 0 0)) := hx1
  have HXE := Hd.mk h_xe
  have HF1 := Hd.mk hf1
  have HX1 := Hd.mk hxe
  have HBM := List.mem_of_getElem? HPP.out.2.1
  have HDO := Hd.mk (does_calls (HPT.out.blk.fr hf1 (by simp)) hxe (HPT.out.sh.fr0 hf1) (fun h => by have := HC.out.ok.bs B HBM xe h; have := HC.out.n0; omega) ((HC.out.ok.pa B HBM).2.2 p (List.mem_of_getElem? HPP.out.1)) (fun e => by have := HC.out.ok.ps p (List.mem_of_getElem? HPP.out.1); have := HC.out.n0; omega) HJ.out.te HJ.out.tn HJ.out.kd)
  clear hx1 hxe hf1 h_xe HBM hd hhl hel hne
  go_wp2_with fail
  refine HDO.out.mono ?_
  rintro r w2 ⟨rfl, hs2, ⟨gv, hgq, hxb⟩, hfe⟩
  obtain ⟨Ag, gc, egv, -⟩ := own_any hgq
  obtain ⟨gn, hgn⟩ : ∃ n, (doneT s j.d).gone.length = n := ⟨_, rfl⟩
  rw [hgn] at egv
  subst egv
  have HGN := Hd.mk hgn
  clear hgn
  have HSB := Hd.mk hs2
  have HGQ := Hd.mk (own_base (base' := C.n0) hgq (Nat.le_trans HC.out.n0 HF1.out.size))
  have HXB := Hd.mk hxb
  have HFB : Hd (Fr B.wr w w2) := Hd.mk ((HF1.out.mono (T := B.wr) (by simp)).weak hfe.fr (fun x hx => by
    rcases List.mem_cons.1 hx with rfl | hx
    · exact .inr (Nat.le_of_eq HXE.out)
    · exact .inl hx))
  have HC2 := Hd.mk (HC.out.shard HPP.out.1 HPP.out.2.1 HPP.out.2.2 HW.out HFB.out hs2)
  have HJ2 := Hd.mk (HJ.out.shard HPT.out.sh HFB.out)
  clear hs2 hgq hxb hfe HDO
  obtain ⟨T, hT⟩ : ∃ T, doneT s j.d = T := ⟨_, rfl⟩
  have HT := Hd.mk hT
  rw [hT] at HGQ HXB
  clear hT
  have j11 : w2.cell? ⟨j.p, 11, none⟩ = some (.bool j.did) := HJ2.out.blk.cell (i := 11) rfl
  have jf : ∀ k, w2.frozen? ⟨j.p, k, none⟩ = false := fun k => HJ2.out.blk.free k
  go_upto_region 14 with (fail)
  refine wp_name ?_; intro wa3 hw3
  have hf3 : Fr [j.p] w2 wa3 := by rw [hw3]; exact fr_set
  have HXJ : Hd (xe ≠ j.p) := Hd.mk (HXB.out.ne HJ2.out.blk (by decide))
  have HBK : Hd (Blk wa3 j.p 66 [.pointer (some ⟨C.pc, 0, none⟩), .int .i64 j.d.kind, .string j.d.e.q.name, .int .u16 j.d.e.q.ty, .int .u16 j.d.e.q.cl, .slice j.d.e.ra j.d.e.rn j.d.e.rc, .int .i64 j.d.e.rcode, .int .i64 j.d.e.rank, .int .u64 j.d.e.expire, .int .u64 j.d.now, j.lv, .bool true, j.vv]) := Hd.mk (by rw [hw3]; exact HJ2.out.blk.set 11 _)
  have HJ3 : Hd (JAt wa3 C { j with did := true }) := Hd.mk (HJ2.out.did HBK.out hf3)
  have HC3 := Hd.mk (HC2.out.job HJ2.out hf3)
  have HXR := Hd.mk (HXB.out.fr hf3 (by simp; exact HXJ.out))
  have HGQ := Hd.mk (own_noT HGQ.out hf3 (NoT.cons HJ2.out.blk (by decide) NoT.nil))
  have HF3 : Hd (Fr (j.p :: B.wr) w wa3) := Hd.mk ((HFB.out.mono (fun _ h => List.mem_cons_of_mem _ h)).trans (hf3.mono (by simp)))
  clear hw3 hf3 j11 jf
  have HXD := Hd.mk HXR.out.drew
  have HRW : Hd (wa3.drew.ownsRow C.n0 47 20 j.vv j.ev.length (j.ev.flatMap Ev.c)) := Hd.mk HJ3.out.ev.row
  have HN0 : Hd (C.n0 ≤ wa3.heap.size) := Hd.mk HC3.out.n0
  have HNL := Hd.mk HJL.out.2.1
  have HBO : Hd (j.p ∉ j.vv.ownBlock.toList) := Hd.mk fun h => by
    obtain ⟨cs', hc⟩ := own_kblk HJ3.out.ev.row (by simpa using h)
    exact (hc.ne HBK.out (by decide)) rfl
  have HXS : Hd (xe ∉ j.p :: j.vv.ownBlock.toList) := Hd.mk (by
    simp only [List.mem_cons, not_or]
    refine ⟨HXJ.out, fun h => ?_⟩
    have h1 := (HJ.out.ev.row.lt xe (by simpa using h)).2
    have h2 := HXE.out
    omega)
  have HSL : Hd (∀ sb, wa3.heap.size ≤ sb → sb ∉ j.p :: j.vv.ownBlock.toList) := Hd.mk (fun sb hs h => by
    rcases List.mem_cons.1 h with rfl | h
    · have := HBK.out.lt; omega
    · have := (HJ3.out.ev.row.lt sb (by simpa using h)).2; omega)
  go_wp2_with fail
  refine wp_region_gs { R := Fr (j.p :: j.vv.ownBlock.toList), R1 := Fr [], gs := [Is (.pointer (some ⟨j.p, 0, none⟩)), Is (.pointer (some ⟨j.p, 0, none⟩)), Is (.pointer (some ⟨j.p, 0, none⟩)), Is (.pointer (some ⟨j.p, 12, none⟩)), Is (j.vv), Is (.agg #[.int .i64 j.d.kind, .string j.d.e.q.name, .int .u16 j.d.e.q.ty, .int .u16 j.d.e.q.cl, .slice j.d.e.ra j.d.e.rn j.d.e.rc, .int .i64 j.d.e.rcode, .int .i64 j.d.e.rank, .int .u64 j.d.e.expire, .int .u64 j.d.now, .int .i64 i, .string T.told.q.name, .int .u16 T.told.q.ty, .int .u16 T.told.q.cl, .slice T.told.ra T.told.rn T.told.rc, .int .i64 T.told.rcode, .int .i64 T.told.rank, .int .u64 T.told.expire, .bool T.is, .int .i64 T.err, .slice Ag gn gc]), (fun (v : Value) (w2 : World) => ∃ sb, v = .slice (some ⟨sb, 0, none⟩) 1 1 ∧ Blk w2 sb 47 [.int .i64 j.d.kind, .string j.d.e.q.name, .int .u16 j.d.e.q.ty, .int .u16 j.d.e.q.cl, .slice j.d.e.ra j.d.e.rn j.d.e.rc, .int .i64 j.d.e.rcode, .int .i64 j.d.e.rank, .int .u64 j.d.e.expire, .int .u64 j.d.now, .int .i64 i, .string T.told.q.name, .int .u16 T.told.q.ty, .int .u16 T.told.q.cl, .slice T.told.ra T.told.rn T.told.rc, .int .i64 T.told.rcode, .int .i64 T.told.rank, .int .u64 T.told.expire, .bool T.is, .int .i64 T.err, .slice Ag gn gc] ∧ wa3.heap.size ≤ sb), (fun (v : Value) (w2 : World) => ∃ g cc, v = .slice (some ⟨g, 0, none⟩) (j.ev.length + 1) cc), Is (.pointer (some ⟨j.p, 0, none⟩)), Is (.pointer (some ⟨j.p, 12, none⟩)), No], ds := [some 80, some 81, some 82, some 83, some 84, some 85, some 86, some 87, some 88, some 89, none], fl := [false, false, false, false, true, false, false, true, false, false, true], hs := [fun _ w2 => Blk w2 j.p 66 [.pointer (some ⟨C.pc, 0, none⟩), .int .i64 j.d.kind, .string j.d.e.q.name, .int .u16 j.d.e.q.ty, .int .u16 j.d.e.q.cl, .slice j.d.e.ra j.d.e.rn j.d.e.rc, .int .i64 j.d.e.rcode, .int .i64 j.d.e.rank, .int .u64 j.d.e.expire, .int .u64 j.d.now, j.lv, .bool true, j.vv] ∧ w2.ownsRow C.n0 47 20 j.vv j.ev.length (j.ev.flatMap Ev.c), fun _ w2 => Blk w2 j.p 66 [.pointer (some ⟨C.pc, 0, none⟩), .int .i64 j.d.kind, .string j.d.e.q.name, .int .u16 j.d.e.q.ty, .int .u16 j.d.e.q.cl, .slice j.d.e.ra j.d.e.rn j.d.e.rc, .int .i64 j.d.e.rcode, .int .i64 j.d.e.rank, .int .u64 j.d.e.expire, .int .u64 j.d.now, j.lv, .bool true, j.vv] ∧ w2.ownsRow C.n0 47 20 j.vv j.ev.length (j.ev.flatMap Ev.c), fun l w2 => Blk w2 j.p 66 [.pointer (some ⟨C.pc, 0, none⟩), .int .i64 j.d.kind, .string j.d.e.q.name, .int .u16 j.d.e.q.ty, .int .u16 j.d.e.q.cl, .slice j.d.e.ra j.d.e.rn j.d.e.rc, .int .i64 j.d.e.rcode, .int .i64 j.d.e.rank, .int .u64 j.d.e.expire, .int .u64 j.d.now, j.lv, .bool true, j.vv] ∧ ∃ g cc, l = [.slice (some ⟨g, 0, none⟩) (j.ev.length + 1) cc] ∧ w2.ownsRow C.n0 47 20 (.slice (some ⟨g, 0, none⟩) (j.ev.length + 1) cc) (j.ev.length + 1) (j.ev.flatMap Ev.c ++ ([.int .i64 j.d.kind, .string j.d.e.q.name, .int .u16 j.d.e.q.ty, .int .u16 j.d.e.q.cl, .slice j.d.e.ra j.d.e.rn j.d.e.rc, .int .i64 j.d.e.rcode, .int .i64 j.d.e.rank, .int .u64 j.d.e.expire, .int .u64 j.d.now, .int .i64 i, .string T.told.q.name, .int .u16 T.told.q.ty, .int .u16 T.told.q.cl, .slice T.told.ra T.told.rn T.told.rc, .int .i64 T.told.rcode, .int .i64 T.told.rank, .int .u64 T.told.expire, .bool T.is, .int .i64 T.err, .slice Ag gn gc] : List Value)) ∧ (j.vv.ownBlock = some g ∨ wa3.heap.size ≤ g), fun _ w2 => ∃ g cc, Blk w2 j.p 66 [.pointer (some ⟨C.pc, 0, none⟩), .int .i64 j.d.kind, .string j.d.e.q.name, .int .u16 j.d.e.q.ty, .int .u16 j.d.e.q.cl, .slice j.d.e.ra j.d.e.rn j.d.e.rc, .int .i64 j.d.e.rcode, .int .i64 j.d.e.rank, .int .u64 j.d.e.expire, .int .u64 j.d.now, j.lv, .bool true, (.slice (some ⟨g, 0, none⟩) (j.ev.length + 1) cc)] ∧ w2.ownsRow C.n0 47 20 (.slice (some ⟨g, 0, none⟩) (j.ev.length + 1) cc) (j.ev.length + 1) (j.ev.flatMap Ev.c ++ ([.int .i64 j.d.kind, .string j.d.e.q.name, .int .u16 j.d.e.q.ty, .int .u16 j.d.e.q.cl, .slice j.d.e.ra j.d.e.rn j.d.e.rc, .int .i64 j.d.e.rcode, .int .i64 j.d.e.rank, .int .u64 j.d.e.expire, .int .u64 j.d.now, .int .i64 i, .string T.told.q.name, .int .u16 T.told.q.ty, .int .u16 T.told.q.cl, .slice T.told.ra T.told.rn T.told.rc, .int .i64 T.told.rcode, .int .i64 T.told.rank, .int .u64 T.told.expire, .bool T.is, .int .i64 T.err, .slice Ag gn gc] : List Value)) ∧ (j.vv.ownBlock = some g ∨ wa3.heap.size ≤ g)], hd := [[], [], [87], []] } [false, false, false, false, false, false, false, false, false, false, false, false, false, false, false, false, false, false, false, false, false, false, false, false, false, false, false, false, false, false, false, false, false, false, false, false, false, false, false, false, false, false, false, false, false, false, false, false, false, false, false, false, false, false, false, false, false, false, false, false, false, false, false, false, false, false, false, false, false, false, false, false, false, false, false, false, false, false, false, false, true, true, true, true, true, true, true, true, true, true, false, false, false, false, false, false, false, false, false, false, false, false, false, false, false, false, false, false, false, false, false, false] (by kernel_rfl) _ (by kernel_rfl) (by kernel_rfl) (by kernel_rfl) (by kernel_rfl) rfl [] (fun _ _ _ h1 h2 => h1.trans h2) (fun _ _ h => h.mono (by simp)) (staI (staI (staI (staI (staI (staI (sta (fun v _ _ hf ⟨sb, h1, h2, h3⟩ => ⟨sb, h1, h2.fr hf (HSL.out sb h3), h3⟩) (sta (fun _ _ _ _ h => h) (staI (staI (staN sta0))))))))))) (sth (fun _ _ _ hf h => ⟨h.1.fr hf (by simp), own_fr h.2 hf (by simp)⟩) (sth (fun _ _ _ hf h => ⟨h.1.fr hf (by simp), own_fr h.2 hf (by simp)⟩) (sth (fun _ _ _ hf ⟨h1, g, cc, h2, h3, h4⟩ => ⟨h1.fr hf (by simp), g, cc, h2, own_fr h3 hf (by simp), h4⟩) (sth (fun _ _ _ hf ⟨g, cc, h1, h3, h4⟩ => ⟨g, cc, h1.fr hf (by simp), own_fr h3 hf (by simp), h4⟩) sth0)))) (fun _ _ h => h.size) _ (Fr.refl _ _) ⟨HBK.out.drew, HRW.out⟩ ?_ ?_
  · refine ⟨?_, ?_, ?_, ?_, ?_, ?_, ?_, ?_, ?_, ?_, ?_, trivial⟩
    · intro σ w' hR hd
      simp only [fill, Nat.reduceAdd, if_true, Bool.false_eq_true, if_false]
      clear hd
      go_wp2
      exact ⟨Fr.refl _ _, rfl⟩
    · intro σ w' hR hd
      simp only [fill, Nat.reduceAdd, if_true, Bool.false_eq_true, if_false]
      clear hd
      go_wp2
      exact ⟨Fr.refl _ _, rfl⟩
    · intro σ w' hR hd
      simp only [fill, Nat.reduceAdd, if_true, Bool.false_eq_true, if_false]
      obtain h81 : σ 81 = _ := hd 1 (by decide)
      rw [h81]
      clear h81
      clear hd
      go_wp2
      exact ⟨Fr.refl _ _, rfl⟩
    · intro σ w' hR hd
      simp only [fill, Nat.reduceAdd, if_true, Bool.false_eq_true, if_false]
      obtain h82 : σ 82 = _ := hd 2 (by decide)
      rw [h82]
      clear h82
      clear hd
      go_wp2
      exact ⟨Fr.refl _ _, rfl⟩
    · intro σ w' hR hd hH
      simp only [fill, Nat.reduceAdd, if_true, Bool.false_eq_true, if_false]
      obtain h83 : σ 83 = _ := hd 3 (by decide)
      rw [h83]
      clear h83
      clear hd
      have hh : Blk w' j.p 66 [.pointer (some ⟨C.pc, 0, none⟩), .int .i64 j.d.kind, .string j.d.e.q.name, .int .u16 j.d.e.q.ty, .int .u16 j.d.e.q.cl, .slice j.d.e.ra j.d.e.rn j.d.e.rc, .int .i64 j.d.e.rcode, .int .i64 j.d.e.rank, .int .u64 j.d.e.expire, .int .u64 j.d.now, j.lv, .bool true, j.vv] ∧ w'.ownsRow C.n0 47 20 j.vv j.ev.length (j.ev.flatMap Ev.c) := hH
      have xl := hh.1.cell (i := 12) rfl
      have HO := Hd.mk hh
      clear hh hH
      go_wp2
      exact ⟨Fr.refl _ _, rfl, HO.out⟩
    · intro σ w' hR hd
      simp only [fill, Nat.reduceAdd, if_true, Bool.false_eq_true, if_false]
      clear hd
      have hxx : Blk w' xe 47 [.int .i64 j.d.kind, .string j.d.e.q.name, .int .u16 j.d.e.q.ty, .int .u16 j.d.e.q.cl, .slice j.d.e.ra j.d.e.rn j.d.e.rc, .int .i64 j.d.e.rcode, .int .i64 j.d.e.rank, .int .u64 j.d.e.expire, .int .u64 j.d.now, .int .i64 i, .string T.told.q.name, .int .u16 T.told.q.ty, .int .u16 T.told.q.cl, .slice T.told.ra T.told.rn T.told.rc, .int .i64 T.told.rcode, .int .i64 T.told.rank, .int .u64 T.told.expire, .bool T.is, .int .i64 T.err, .slice Ag gn gc] := HXD.out.fr hR HXS.out
      go_wp2_with (refine wpList_load_row rfl 47 (.tmp 5) rfl xe rfl 47 #[.int .i64 j.d.kind, .string j.d.e.q.name, .int .u16 j.d.e.q.ty, .int .u16 j.d.e.q.cl, .slice j.d.e.ra j.d.e.rn j.d.e.rc, .int .i64 j.d.e.rcode, .int .i64 j.d.e.rank, .int .u64 j.d.e.expire, .int .u64 j.d.now, .int .i64 i, .string T.told.q.name, .int .u16 T.told.q.ty, .int .u16 T.told.q.cl, .slice T.told.ra T.told.rn T.told.rc, .int .i64 T.told.rcode, .int .i64 T.told.rank, .int .u64 T.told.expire, .bool T.is, .int .i64 T.err, .slice Ag gn gc] (0, 0) _ hxx Try.underlying47 rfl (by kernel_rfl) ?_)
      exact ⟨Fr.refl _ _, rfl⟩
    · intro σ w' hR hd
      simp only [fill, Nat.reduceAdd, if_true, Bool.false_eq_true, if_false]
      obtain h85 : σ 85 = _ := hd 5 (by decide)
      rw [h85]
      clear h85
      clear hd
      have HSZ : Hd (wa3.heap.size ≤ w'.heap.size) := Hd.mk (show wa3.drew.heap.size ≤ _ from Fr.size hR)
      have HNA : Hd (Fr [] w' (w'.alloc (.cells #[.int .i64 j.d.kind, .string j.d.e.q.name, .int .u16 j.d.e.q.ty, .int .u16 j.d.e.q.cl, .slice j.d.e.ra j.d.e.rn j.d.e.rc, .int .i64 j.d.e.rcode, .int .i64 j.d.e.rank, .int .u64 j.d.e.expire, .int .u64 j.d.now, .int .i64 i, .string T.told.q.name, .int .u16 T.told.q.ty, .int .u16 T.told.q.cl, .slice T.told.ra T.told.rn T.told.rc, .int .i64 T.told.rcode, .int .i64 T.told.rank, .int .u64 T.told.expire, .bool T.is, .int .i64 T.err, .slice Ag gn gc] 47)) ∧ Blk (w'.alloc (.cells #[.int .i64 j.d.kind, .string j.d.e.q.name, .int .u16 j.d.e.q.ty, .int .u16 j.d.e.q.cl, .slice j.d.e.ra j.d.e.rn j.d.e.rc, .int .i64 j.d.e.rcode, .int .i64 j.d.e.rank, .int .u64 j.d.e.expire, .int .u64 j.d.now, .int .i64 i, .string T.told.q.name, .int .u16 T.told.q.ty, .int .u16 T.told.q.cl, .slice T.told.ra T.told.rn T.told.rc, .int .i64 T.told.rcode, .int .i64 T.told.rank, .int .u64 T.told.expire, .bool T.is, .int .i64 T.err, .slice Ag gn gc] 47)) w'.heap.size 47 [.int .i64 j.d.kind, .string j.d.e.q.name, .int .u16 j.d.e.q.ty, .int .u16 j.d.e.q.cl, .slice j.d.e.ra j.d.e.rn j.d.e.rc, .int .i64 j.d.e.rcode, .int .i64 j.d.e.rank, .int .u64 j.d.e.expire, .int .u64 j.d.now, .int .i64 i, .string T.told.q.name, .int .u16 T.told.q.ty, .int .u16 T.told.q.cl, .slice T.told.ra T.told.rn T.told.rc, .int .i64 T.told.rcode, .int .i64 T.told.rank, .int .u64 T.told.expire, .bool T.is, .int .i64 T.err, .slice Ag gn gc]) := Hd.mk ⟨(Fr.refl _ _).alloc _, Blk.new _ _ _⟩
      go_wp2_with (refine wpList_bs_ev rfl 85 86 rfl rfl j.d.kind j.d.e.q.name j.d.e.q.ty j.d.e.q.cl j.d.e.ra j.d.e.rn j.d.e.rc j.d.e.rcode j.d.e.rank j.d.e.expire j.d.now i T.told.q.name T.told.q.ty T.told.q.cl T.told.ra T.told.rn T.told.rc T.told.rcode T.told.rank T.told.expire T.is T.err Ag gn gc rfl ?_)
      exact ⟨HNA.out.1, _, rfl, HNA.out.2, HSZ.out⟩
    · intro σ w' hR hd hH
      simp only [fill, Nat.reduceAdd, if_true, Bool.false_eq_true, if_false]
      obtain h84 : σ 84 = _ := hd 4 (by decide)
      obtain ⟨sb, h86, hsb, hsz⟩ : (fun (v : Value) (w2 : World) => ∃ sb, v = .slice (some ⟨sb, 0, none⟩) 1 1 ∧ Blk w2 sb 47 [.int .i64 j.d.kind, .string j.d.e.q.name, .int .u16 j.d.e.q.ty, .int .u16 j.d.e.q.cl, .slice j.d.e.ra j.d.e.rn j.d.e.rc, .int .i64 j.d.e.rcode, .int .i64 j.d.e.rank, .int .u64 j.d.e.expire, .int .u64 j.d.now, .int .i64 i, .string T.told.q.name, .int .u16 T.told.q.ty, .int .u16 T.told.q.cl, .slice T.told.ra T.told.rn T.told.rc, .int .i64 T.told.rcode, .int .i64 T.told.rank, .int .u64 T.told.expire, .bool T.is, .int .i64 T.err, .slice Ag gn gc] ∧ wa3.heap.size ≤ sb) (σ 86) w' := hd 6 (by decide)
      rw [h84, h86]
      clear h84 h86
      clear hd
      obtain ⟨hb0, hown⟩ : Blk w' j.p 66 [.pointer (some ⟨C.pc, 0, none⟩), .int .i64 j.d.kind, .string j.d.e.q.name, .int .u16 j.d.e.q.ty, .int .u16 j.d.e.q.cl, .slice j.d.e.ra j.d.e.rn j.d.e.rc, .int .i64 j.d.e.rcode, .int .i64 j.d.e.rank, .int .u64 j.d.e.expire, .int .u64 j.d.now, j.lv, .bool true, j.vv] ∧ w'.ownsRow C.n0 47 20 j.vv j.ev.length (j.ev.flatMap Ev.c) := hH
      have hn0 : C.n0 ≤ w'.heap.size := Nat.le_trans HN0.out (show wa3.drew.heap.size ≤ _ from Fr.size hR)
      have HSZ : Hd (wa3.heap.size ≤ w'.heap.size) := Hd.mk (show wa3.drew.heap.size ≤ _ from Fr.size hR)
      have hnl := HNL.out
      have HB0 := Hd.mk hb0
      have HOW := Hd.mk hown
      clear hb0
      go_wp2_with (at_builtin; refine wpList_app1b elEv rfl (.tmp 84) (.tmp 86) rfl hown rfl [.int .i64 j.d.kind, .string j.d.e.q.name, .int .u16 j.d.e.q.ty, .int .u16 j.d.e.q.cl, .slice j.d.e.ra j.d.e.rn j.d.e.rc, .int .i64 j.d.e.rcode, .int .i64 j.d.e.rank, .int .u64 j.d.e.expire, .int .u64 j.d.now, .int .i64 i, .string T.told.q.name, .int .u16 T.told.q.ty, .int .u16 T.told.q.cl, .slice T.told.ra T.told.rn T.told.rc, .int .i64 T.told.rcode, .int .i64 T.told.rank, .int .u64 T.told.expire, .bool T.is, .int .i64 T.err, .slice Ag gn gc] hsb rfl rfl (by simp [Value.oneCell']) (by omega) (by omega) hn0 ?_; intro g9 c9 w9 ho9 hf9 hb9 hg9 hor9; have HO9 := Hd.mk ho9; have HF9 := Hd.mk hf9; have HOR := Hd.mk (hor9.imp id fun h => Nat.le_trans HSZ.out h); clear ho9 hf9 hb9 hg9 hor9 hown)
      exact ⟨HF9.out.mono (fun _ hk => List.mem_cons_of_mem _ hk), ⟨_, _, rfl⟩, HB0.out.fr HF9.out HBO.out, _, _, rfl, HO9.out, HOR.out⟩
    · intro σ w' hR hd
      simp only [fill, Nat.reduceAdd, if_true, Bool.false_eq_true, if_false]
      obtain h80 : σ 80 = _ := hd 0 (by decide)
      rw [h80]
      clear h80
      clear hd
      go_wp2
      exact ⟨Fr.refl _ _, rfl⟩
    · intro σ w' hR hd
      simp only [fill, Nat.reduceAdd, if_true, Bool.false_eq_true, if_false]
      obtain h88 : σ 88 = _ := hd 8 (by decide)
      rw [h88]
      clear h88
      clear hd
      go_wp2
      exact ⟨Fr.refl _ _, rfl⟩
    · intro σ w' hR hd hH
      simp only [fill, Nat.reduceAdd, if_true, Bool.false_eq_true, if_false]
      obtain ⟨g7, c7, h87⟩ : (fun (v : Value) (w2 : World) => ∃ g cc, v = .slice (some ⟨g, 0, none⟩) (j.ev.length + 1) cc) (σ 87) w' := hd 7 (by decide)
      obtain h89 : σ 89 = _ := hd 9 (by decide)
      rw [h89]
      clear h89
      clear hd
      obtain ⟨hb0, g, cc, hl, hown, hor⟩ : Blk w' j.p 66 [.pointer (some ⟨C.pc, 0, none⟩), .int .i64 j.d.kind, .string j.d.e.q.name, .int .u16 j.d.e.q.ty, .int .u16 j.d.e.q.cl, .slice j.d.e.ra j.d.e.rn j.d.e.rc, .int .i64 j.d.e.rcode, .int .i64 j.d.e.rank, .int .u64 j.d.e.expire, .int .u64 j.d.now, j.lv, .bool true, j.vv] ∧ ∃ g cc, [σ 87] = [.slice (some ⟨g, 0, none⟩) (j.ev.length + 1) cc] ∧ w'.ownsRow C.n0 47 20 (.slice (some ⟨g, 0, none⟩) (j.ev.length + 1) cc) (j.ev.length + 1) (j.ev.flatMap Ev.c ++ ([.int .i64 j.d.kind, .string j.d.e.q.name, .int .u16 j.d.e.q.ty, .int .u16 j.d.e.q.cl, .slice j.d.e.ra j.d.e.rn j.d.e.rc, .int .i64 j.d.e.rcode, .int .i64 j.d.e.rank, .int .u64 j.d.e.expire, .int .u64 j.d.now, .int .i64 i, .string T.told.q.name, .int .u16 T.told.q.ty, .int .u16 T.told.q.cl, .slice T.told.ra T.told.rn T.told.rc, .int .i64 T.told.rcode, .int .i64 T.told.rank, .int .u64 T.told.expire, .bool T.is, .int .i64 T.err, .slice Ag gn gc] : List Value)) ∧ (j.vv.ownBlock = some g ∨ wa3.heap.size ≤ g) := hH
      have hs : σ 87 = .slice (some ⟨g, 0, none⟩) (j.ev.length + 1) cc := by simpa using hl
      rw [hs]
      have xl := hb0.cell (i := 12) rfl
      have xf := hb0.free 12
      have HO := Hd.mk (And.intro hown hor)
      have HB0 := Hd.mk hb0
      clear h87 hown hor hl hb0 hs
      go_wp2
      exact ⟨fr_set.mono (by simp), trivial, _, _, HB0.out.set 12 _, own_fr HO.out.1 fr_set (by simpa using own_ne HO.out.1 HB0.out (by decide)), HO.out.2⟩
  · intro σ w3 hR hG hH
    simp only [fill, Nat.reduceAdd, if_true, Bool.false_eq_true, if_false]
    clear hG
    obtain ⟨g1, cc1, hb4, ho4, hor4⟩ : ∃ g cc, Blk w3 j.p 66 [.pointer (some ⟨C.pc, 0, none⟩), .int .i64 j.d.kind, .string j.d.e.q.name, .int .u16 j.d.e.q.ty, .int .u16 j.d.e.q.cl, .slice j.d.e.ra j.d.e.rn j.d.e.rc, .int .i64 j.d.e.rcode, .int .i64 j.d.e.rank, .int .u64 j.d.e.expire, .int .u64 j.d.now, j.lv, .bool true, (.slice (some ⟨g, 0, none⟩) (j.ev.length + 1) cc)] ∧ w3.ownsRow C.n0 47 20 (.slice (some ⟨g, 0, none⟩) (j.ev.length + 1) cc) (j.ev.length + 1) (j.ev.flatMap Ev.c ++ ([.int .i64 j.d.kind, .string j.d.e.q.name, .int .u16 j.d.e.q.ty, .int .u16 j.d.e.q.cl, .slice j.d.e.ra j.d.e.rn j.d.e.rc, .int .i64 j.d.e.rcode, .int .i64 j.d.e.rank, .int .u64 j.d.e.expire, .int .u64 j.d.now, .int .i64 i, .string T.told.q.name, .int .u16 T.told.q.ty, .int .u16 T.told.q.cl, .slice T.told.ra T.told.rn T.told.rc, .int .i64 T.told.rcode, .int .i64 T.told.rank, .int .u64 T.told.expire, .bool T.is, .int .i64 T.err, .slice Ag gn gc] : List Value)) ∧ (j.vv.ownBlock = some g ∨ wa3.heap.size ≤ g) := hH
    have hf4 : Fr (j.p :: j.vv.ownBlock.toList) wa3 w3 := (Fr.drew (Fr.refl _ _)).trans hR
    clear hR
    obtain ⟨wa4, rfl⟩ : ∃ x, x = w3 := ⟨_, rfl⟩
    have hnT : ∀ T', 66 ≠ T' → 47 ≠ T' → NoT wa3 (j.p :: j.vv.ownBlock.toList) T' := fun T' h1 h2 => NoT.cons HBK.out h1 (NoT.own HJ3.out.ev.row h2)
    have HGQ4 := Hd.mk (own_noT HGQ.out hf4 (hnT _ (by decide) (by decide)))
    have HE4 : Hd (EvRow wa4 C.n0 (.slice (some ⟨g1, 0, none⟩) (j.ev.length + 1) cc1) (j.ev ++ [⟨j.d, i, T, .slice Ag gn gc⟩])) := Hd.mk ⟨by
      rw [List.length_append, List.flatMap_append]
      exact ho4, fun e he => by
      rcases List.mem_append.1 he with he | he
      · exact own_noT (HJ3.out.ev.gone e he) hf4 (hnT _ (by decide) (by decide))
      · obtain rfl := List.mem_singleton.1 he
        exact HGQ4.out⟩
    have HJ4 : Hd (JAt wa4 C { j with did := true, ev := j.ev ++ [⟨j.d, i, T, .slice Ag gn gc⟩], vv := .slice (some ⟨g1, 0, none⟩) (j.ev.length + 1) cc1 }) := Hd.mk ⟨HJ.out.n0, hb4, HJ3.out.left.noT hf4 (hnT _ (by decide) (by decide)), HE4.out, HJ.out.ok, HJ.out.kd, HJ.out.te, HJ.out.tn⟩
    have HC4 := Hd.mk (HC3.out.out hf4 (fun k hk => by
      rcases List.mem_cons.1 hk with rfl | hk
      · exact HJ.out.n0
      · exact (HJ3.out.ev.row.lt k (by simpa using hk)).1) (fun k hk hx => by
      rcases List.mem_cons.1 hx with rfl | hx
      · obtain ⟨cs', hc⟩ := own_kblk HC3.out.hist.row hk
        exact (hc.ne HBK.out (by decide)) rfl
      · exact HJL.out.2.2 k hk (by simpa using hx)) (hnT _ (by decide) (by decide)))
    have HX4 := Hd.mk (HXR.out.fr hf4 HXS.out)
    have HOR4 := Hd.mk hor4
    have HJB4 := Hd.mk hb4
    have HJD := Hd.mk hb4.drew
    have HF4 := Hd.mk hf4
    clear hb4 ho4 hor4 hf4 hnT
    have HBK := Hd.mk HC4.out.blk
    have HXD := Hd.mk HX4.out.drew
    have HRW : Hd (wa4.drew.ownsRow C.n0 47 20 hv c.hist.length (c.hist.flatMap Ev.c)) := Hd.mk HC4.out.hist.row
    have HN0 : Hd (C.n0 ≤ wa4.heap.size) := Hd.mk HC4.out.n0
    have HNL := Hd.mk HJL.out.1
    have HBO : Hd (C.pc ∉ hv.ownBlock.toList) := Hd.mk fun h => by
      obtain ⟨cs', hc⟩ := own_kblk HC4.out.hist.row (by simpa using h)
      exact (hc.ne HC4.out.blk (by decide)) rfl
    have HXS : Hd (xe ∉ C.pc :: hv.ownBlock.toList) := Hd.mk (by
      simp only [List.mem_cons, not_or]
      refine ⟨HX4.out.ne HC4.out.blk (by decide), fun h => ?_⟩
      have h1 := (HC.out.hist.row.lt xe (by simpa using h)).2
      have h2 := HXE.out
      omega)
    have HSL : Hd (∀ sb, wa4.heap.size ≤ sb → sb ∉ C.pc :: hv.ownBlock.toList) := Hd.mk (fun sb hs h => by
      rcases List.mem_cons.1 h with rfl | h
      · have := HC4.out.blk.lt; omega
      · have := (HC4.out.hist.row.lt sb (by simpa using h)).2; omega)
    have HJS : Hd (j.p ∉ C.pc :: hv.ownBlock.toList) := Hd.mk (by
      simp only [List.mem_cons, not_or]
      refine ⟨HJB4.out.ne HC4.out.blk (by decide), fun h => ?_⟩
      obtain ⟨cs', hc⟩ := own_kblk HC4.out.hist.row (by simpa using h)
      exact (hc.ne HJB4.out (by decide)) rfl)
    go_wp2_with fail
    refine wp_region_gs { R := Fr (C.pc :: hv.ownBlock.toList), R1 := Fr [], gs := [Is (.pointer (some ⟨j.p, 0, none⟩)), Is (.pointer (some ⟨j.p, 0, none⟩)), Is (.pointer (some ⟨j.p, 0, none⟩)), Is (.pointer (some ⟨C.pc, 0, none⟩)), Is (.pointer (some ⟨j.p, 0, none⟩)), Is (.pointer (some ⟨j.p, 0, none⟩)), Is (.pointer (some ⟨j.p, 0, none⟩)), Is (.pointer (some ⟨C.pc, 0, none⟩)), Is (.pointer (some ⟨C.pc, 0, none⟩)), Is (.pointer (some ⟨C.pc, 1, none⟩)), Is (hv), Is (.agg #[.int .i64 j.d.kind, .string j.d.e.q.name, .int .u16 j.d.e.q.ty, .int .u16 j.d.e.q.cl, .slice j.d.e.ra j.d.e.rn j.d.e.rc, .int .i64 j.d.e.rcode, .int .i64 j.d.e.rank, .int .u64 j.d.e.expire, .int .u64 j.d.now, .int .i64 i, .string T.told.q.name, .int .u16 T.told.q.ty, .int .u16 T.told.q.cl, .slice T.told.ra T.told.rn T.told.rc, .int .i64 T.told.rcode, .int .i64 T.told.rank, .int .u64 T.told.expire, .bool T.is, .int .i64 T.err, .slice Ag gn gc]), (fun (v : Value) (w2 : World) => ∃ sb, v = .slice (some ⟨sb, 0, none⟩) 1 1 ∧ Blk w2 sb 47 [.int .i64 j.d.kind, .string j.d.e.q.name, .int .u16 j.d.e.q.ty, .int .u16 j.d.e.q.cl, .slice j.d.e.ra j.d.e.rn j.d.e.rc, .int .i64 j.d.e.rcode, .int .i64 j.d.e.rank, .int .u64 j.d.e.expire, .int .u64 j.d.now, .int .i64 i, .string T.told.q.name, .int .u16 T.told.q.ty, .int .u16 T.told.q.cl, .slice T.told.ra T.told.rn T.told.rc, .int .i64 T.told.rcode, .int .i64 T.told.rank, .int .u64 T.told.expire, .bool T.is, .int .i64 T.err, .slice Ag gn gc] ∧ wa4.heap.size ≤ sb), (fun (v : Value) (w2 : World) => ∃ g cc, v = .slice (some ⟨g, 0, none⟩) (c.hist.length + 1) cc), Is (.pointer (some ⟨C.pc, 0, none⟩)), Is (.pointer (some ⟨C.pc, 1, none⟩)), No], ds := [some 90, some 91, some 92, some 93, some 94, some 95, some 96, some 97, some 98, some 99, some 100, some 101, some 102, some 103, some 104, some 105, none], fl := [false, false, false, false, false, false, false, false, false, false, true, false, false, true, false, false, true], hs := [fun _ w2 => Blk w2 C.pc 58 [.slice (some ⟨C.gp, 0, none⟩) C.ps.length C.cap, hv] ∧ w2.ownsRow C.n0 47 20 hv c.hist.length (c.hist.flatMap Ev.c), fun _ w2 => Blk w2 C.pc 58 [.slice (some ⟨C.gp, 0, none⟩) C.ps.length C.cap, hv] ∧ w2.ownsRow C.n0 47 20 hv c.hist.length (c.hist.flatMap Ev.c), fun l w2 => Blk w2 C.pc 58 [.slice (some ⟨C.gp, 0, none⟩) C.ps.length C.cap, hv] ∧ ∃ g cc, l = [.slice (some ⟨g, 0, none⟩) (c.hist.length + 1) cc] ∧ w2.ownsRow C.n0 47 20 (.slice (some ⟨g, 0, none⟩) (c.hist.length + 1) cc) (c.hist.length + 1) (c.hist.flatMap Ev.c ++ ([.int .i64 j.d.kind, .string j.d.e.q.name, .int .u16 j.d.e.q.ty, .int .u16 j.d.e.q.cl, .slice j.d.e.ra j.d.e.rn j.d.e.rc, .int .i64 j.d.e.rcode, .int .i64 j.d.e.rank, .int .u64 j.d.e.expire, .int .u64 j.d.now, .int .i64 i, .string T.told.q.name, .int .u16 T.told.q.ty, .int .u16 T.told.q.cl, .slice T.told.ra T.told.rn T.told.rc, .int .i64 T.told.rcode, .int .i64 T.told.rank, .int .u64 T.told.expire, .bool T.is, .int .i64 T.err, .slice Ag gn gc] : List Value)) ∧ (hv.ownBlock = some g ∨ wa4.heap.size ≤ g), fun _ w2 => ∃ g cc, Blk w2 C.pc 58 [.slice (some ⟨C.gp, 0, none⟩) C.ps.length C.cap, .slice (some ⟨g, 0, none⟩) (c.hist.length + 1) cc] ∧ w2.ownsRow C.n0 47 20 (.slice (some ⟨g, 0, none⟩) (c.hist.length + 1) cc) (c.hist.length + 1) (c.hist.flatMap Ev.c ++ ([.int .i64 j.d.kind, .string j.d.e.q.name, .int .u16 j.d.e.q.ty, .int .u16 j.d.e.q.cl, .slice j.d.e.ra j.d.e.rn j.d.e.rc, .int .i64 j.d.e.rcode, .int .i64 j.d.e.rank, .int .u64 j.d.e.expire, .int .u64 j.d.now, .int .i64 i, .string T.told.q.name, .int .u16 T.told.q.ty, .int .u16 T.told.q.cl, .slice T.told.ra T.told.rn T.told.rc, .int .i64 T.told.rcode, .int .i64 T.told.rank, .int .u64 T.told.expire, .bool T.is, .int .i64 T.err, .slice Ag gn gc] : List Value)) ∧ (hv.ownBlock = some g ∨ wa4.heap.size ≤ g)], hd := [[], [], [103], []] } [false, false, false, false, false, false, false, false, false, false, false, false, false, false, false, false, false, false, false, false, false, false, false, false, false, false, false, false, false, false, false, false, false, false, false, false, false, false, false, false, false, false, false, false, false, false, false, false, false, false, false, false, false, false, false, false, false, false, false, false, false, false, false, false, false, false, false, false, false, false, false, false, false, false, false, false, false, false, false, false, false, false, false, false, false, false, false, false, false, false, true, true, true, true, true, true, true, true, true, true, true, true, true, true, true, true, false, false, false, false, false, false] (by kernel_rfl) _ (by kernel_rfl) (by kernel_rfl) (by kernel_rfl) (by kernel_rfl) rfl [] (fun _ _ _ h1 h2 => h1.trans h2) (fun _ _ h => h.mono (by simp)) (staI (staI (staI (staI (staI (staI (staI (staI (staI (staI (staI (staI (sta (fun v _ _ hf ⟨sb, h1, h2, h3⟩ => ⟨sb, h1, h2.fr hf (HSL.out sb h3), h3⟩) (sta (fun _ _ _ _ h => h) (staI (staI (staN sta0))))))))))))))))) (sth (fun _ _ _ hf h => ⟨h.1.fr hf (by simp), own_fr h.2 hf (by simp)⟩) (sth (fun _ _ _ hf h => ⟨h.1.fr hf (by simp), own_fr h.2 hf (by simp)⟩) (sth (fun _ _ _ hf ⟨h1, g, cc, h2, h3, h4⟩ => ⟨h1.fr hf (by simp), g, cc, h2, own_fr h3 hf (by simp), h4⟩) (sth (fun _ _ _ hf ⟨g, cc, h1, h3, h4⟩ => ⟨g, cc, h1.fr hf (by simp), own_fr h3 hf (by simp), h4⟩) sth0)))) (fun _ _ h => h.size) _ (Fr.refl _ _) ⟨HBK.out.drew, HRW.out⟩ ?_ ?_
    · refine ⟨?_, ?_, ?_, ?_, ?_, ?_, ?_, ?_, ?_, ?_, ?_, ?_, ?_, ?_, ?_, ?_, ?_, trivial⟩
      · intro σ w' hR hd
        simp only [fill, Nat.reduceAdd, if_true, Bool.false_eq_true, if_false]
        clear hd
        go_wp2
        exact ⟨Fr.refl _ _, rfl⟩
      · intro σ w' hR hd
        simp only [fill, Nat.reduceAdd, if_true, Bool.false_eq_true, if_false]
        obtain h90 : σ 90 = _ := hd 0 (by decide)
        rw [h90]
        clear h90
        clear hd
        go_wp2
        exact ⟨Fr.refl _ _, rfl⟩
      · intro σ w' hR hd
        simp only [fill, Nat.reduceAdd, if_true, Bool.false_eq_true, if_false]
        obtain h91 : σ 91 = _ := hd 1 (by decide)
        rw [h91]
        clear h91
        clear hd
        go_wp2
        exact ⟨Fr.refl _ _, rfl⟩
      · intro σ w' hR hd
        simp only [fill, Nat.reduceAdd, if_true, Bool.false_eq_true, if_false]
        obtain h92 : σ 92 = _ := hd 2 (by decide)
        rw [h92]
        clear h92
        clear hd
        have xj := (HJD.out.fr hR HJS.out).cell (i := 0) rfl
        go_wp2
        exact ⟨Fr.refl _ _, rfl⟩
      · intro σ w' hR hd
        simp only [fill, Nat.reduceAdd, if_true, Bool.false_eq_true, if_false]
        clear hd
        go_wp2
        exact ⟨Fr.refl _ _, rfl⟩
      · intro σ w' hR hd
        simp only [fill, Nat.reduceAdd, if_true, Bool.false_eq_true, if_false]
        obtain h94 : σ 94 = _ := hd 4 (by decide)
        rw [h94]
        clear h94
        clear hd
        go_wp2
        exact ⟨Fr.refl _ _, rfl⟩
      · intro σ w' hR hd
        simp only [fill, Nat.reduceAdd, if_true, Bool.false_eq_true, if_false]
        obtain h95 : σ 95 = _ := hd 5 (by decide)
        rw [h95]
        clear h95
        clear hd
        go_wp2
        exact ⟨Fr.refl _ _, rfl⟩
      · intro σ w' hR hd
        simp only [fill, Nat.reduceAdd, if_true, Bool.false_eq_true, if_false]
        obtain h96 : σ 96 = _ := hd 6 (by decide)
        rw [h96]
        clear h96
        clear hd
        have xj := (HJD.out.fr hR HJS.out).cell (i := 0) rfl
        go_wp2
        exact ⟨Fr.refl _ _, rfl⟩
      · intro σ w' hR hd
        simp only [fill, Nat.reduceAdd, if_true, Bool.false_eq_true, if_false]
        obtain h97 : σ 97 = _ := hd 7 (by decide)
        rw [h97]
        clear h97
        clear hd
        go_wp2
        exact ⟨Fr.refl _ _, rfl⟩
      · intro σ w' hR hd
        simp only [fill, Nat.reduceAdd, if_true, Bool.false_eq_true, if_false]
        obtain h98 : σ 98 = _ := hd 8 (by decide)
        rw [h98]
        clear h98
        clear hd
        go_wp2
        exact ⟨Fr.refl _ _, rfl⟩
      · intro σ w' hR hd hH
        simp only [fill, Nat.reduceAdd, if_true, Bool.false_eq_true, if_false]
        obtain h99 : σ 99 = _ := hd 9 (by decide)
        rw [h99]
        clear h99
        clear hd
        have hh : Blk w' C.pc 58 [.slice (some ⟨C.gp, 0, none⟩) C.ps.length C.cap, hv] ∧ w'.ownsRow C.n0 47 20 hv c.hist.length (c.hist.flatMap Ev.c) := hH
        have xl := hh.1.cell (i := 1) rfl
        have HO := Hd.mk hh
        clear hh hH
        go_wp2
        exact ⟨Fr.refl _ _, rfl, HO.out⟩
      · intro σ w' hR hd
        simp only [fill, Nat.reduceAdd, if_true, Bool.false_eq_true, if_false]
        clear hd
        have hxx : Blk w' xe 47 [.int .i64 j.d.kind, .string j.d.e.q.name, .int .u16 j.d.e.q.ty, .int .u16 j.d.e.q.cl, .slice j.d.e.ra j.d.e.rn j.d.e.rc, .int .i64 j.d.e.rcode, .int .i64 j.d.e.rank, .int .u64 j.d.e.expire, .int .u64 j.d.now, .int .i64 i, .string T.told.q.name, .int .u16 T.told.q.ty, .int .u16 T.told.q.cl, .slice T.told.ra T.told.rn T.told.rc, .int .i64 T.told.rcode, .int .i64 T.told.rank, .int .u64 T.told.expire, .bool T.is, .int .i64 T.err, .slice Ag gn gc] := HXD.out.fr hR HXS.out
        go_wp2_with (refine wpList_load_row rfl 47 (.tmp 5) rfl xe rfl 47 #[.int .i64 j.d.kind, .string j.d.e.q.name, .int .u16 j.d.e.q.ty, .int .u16 j.d.e.q.cl, .slice j.d.e.ra j.d.e.rn j.d.e.rc, .int .i64 j.d.e.rcode, .int .i64 j.d.e.rank, .int .u64 j.d.e.expire, .int .u64 j.d.now, .int .i64 i, .string T.told.q.name, .int .u16 T.told.q.ty, .int .u16 T.told.q.cl, .slice T.told.ra T.told.rn T.told.rc, .int .i64 T.told.rcode, .int .i64 T.told.rank, .int .u64 T.told.expire, .bool T.is, .int .i64 T.err, .slice Ag gn gc] (0, 0) _ hxx Try.underlying47 rfl (by kernel_rfl) ?_)
        exact ⟨Fr.refl _ _, rfl⟩
      · intro σ w' hR hd
        simp only [fill, Nat.reduceAdd, if_true, Bool.false_eq_true, if_false]
        obtain h101 : σ 101 = _ := hd 11 (by decide)
        rw [h101]
        clear h101
        clear hd
        have HSZ : Hd (wa4.heap.size ≤ w'.heap.size) := Hd.mk (show wa4.drew.heap.size ≤ _ from Fr.size hR)
        have HNA : Hd (Fr [] w' (w'.alloc (.cells #[.int .i64 j.d.kind, .string j.d.e.q.name, .int .u16 j.d.e.q.ty, .int .u16 j.d.e.q.cl, .slice j.d.e.ra j.d.e.rn j.d.e.rc, .int .i64 j.d.e.rcode, .int .i64 j.d.e.rank, .int .u64 j.d.e.expire, .int .u64 j.d.now, .int .i64 i, .string T.told.q.name, .int .u16 T.told.q.ty, .int .u16 T.told.q.cl, .slice T.told.ra T.told.rn T.told.rc, .int .i64 T.told.rcode, .int .i64 T.told.rank, .int .u64 T.told.expire, .bool T.is, .int .i64 T.err, .slice Ag gn gc] 47)) ∧ Blk (w'.alloc (.cells #[.int .i64 j.d.kind, .string j.d.e.q.name, .int .u16 j.d.e.q.ty, .int .u16 j.d.e.q.cl, .slice j.d.e.ra j.d.e.rn j.d.e.rc, .int .i64 j.d.e.rcode, .int .i64 j.d.e.rank, .int .u64 j.d.e.expire, .int .u64 j.d.now, .int .i64 i, .string T.told.q.name, .int .u16 T.told.q.ty, .int .u16 T.told.q.cl, .slice T.told.ra T.told.rn T.told.rc, .int .i64 T.told.rcode, .int .i64 T.told.rank, .int .u64 T.told.expire, .bool T.is, .int .i64 T.err, .slice Ag gn gc] 47)) w'.heap.size 47 [.int .i64 j.d.kind, .string j.d.e.q.name, .int .u16 j.d.e.q.ty, .int .u16 j.d.e.q.cl, .slice j.d.e.ra j.d.e.rn j.d.e.rc, .int .i64 j.d.e.rcode, .int .i64 j.d.e.rank, .int .u64 j.d.e.expire, .int .u64 j.d.now, .int .i64 i, .string T.told.q.name, .int .u16 T.told.q.ty, .int .u16 T.told.q.cl, .slice T.told.ra T.told.rn T.told.rc, .int .i64 T.told.rcode, .int .i64 T.told.rank, .int .u64 T.told.expire, .bool T.is, .int .i64 T.err, .slice Ag gn gc]) := Hd.mk ⟨(Fr.refl _ _).alloc _, Blk.new _ _ _⟩
        go_wp2_with (refine wpList_bs_ev rfl 101 102 rfl rfl j.d.kind j.d.e.q.name j.d.e.q.ty j.d.e.q.cl j.d.e.ra j.d.e.rn j.d.e.rc j.d.e.rcode j.d.e.rank j.d.e.expire j.d.now i T.told.q.name T.told.q.ty T.told.q.cl T.told.ra T.told.rn T.told.rc T.told.rcode T.told.rank T.told.expire T.is T.err Ag gn gc rfl ?_)
        exact ⟨HNA.out.1, _, rfl, HNA.out.2, HSZ.out⟩
      · intro σ w' hR hd hH
        simp only [fill, Nat.reduceAdd, if_true, Bool.false_eq_true, if_false]
        obtain h100 : σ 100 = _ := hd 10 (by decide)
        obtain ⟨sb, h102, hsb, hsz⟩ : (fun (v : Value) (w2 : World) => ∃ sb, v = .slice (some ⟨sb, 0, none⟩) 1 1 ∧ Blk w2 sb 47 [.int .i64 j.d.kind, .string j.d.e.q.name, .int .u16 j.d.e.q.ty, .int .u16 j.d.e.q.cl, .slice j.d.e.ra j.d.e.rn j.d.e.rc, .int .i64 j.d.e.rcode, .int .i64 j.d.e.rank, .int .u64 j.d.e.expire, .int .u64 j.d.now, .int .i64 i, .string T.told.q.name, .int .u16 T.told.q.ty, .int .u16 T.told.q.cl, .slice T.told.ra T.told.rn T.told.rc, .int .i64 T.told.rcode, .int .i64 T.told.rank, .int .u64 T.told.expire, .bool T.is, .int .i64 T.err, .slice Ag gn gc] ∧ wa4.heap.size ≤ sb) (σ 102) w' := hd 12 (by decide)
        rw [h100, h102]
        clear h100 h102
        clear hd
        obtain ⟨hb0, hown⟩ : Blk w' C.pc 58 [.slice (some ⟨C.gp, 0, none⟩) C.ps.length C.cap, hv] ∧ w'.ownsRow C.n0 47 20 hv c.hist.length (c.hist.flatMap Ev.c) := hH
        have hn0 : C.n0 ≤ w'.heap.size := Nat.le_trans HN0.out (show wa4.drew.heap.size ≤ _ from Fr.size hR)
        have HSZ : Hd (wa4.heap.size ≤ w'.heap.size) := Hd.mk (show wa4.drew.heap.size ≤ _ from Fr.size hR)
        have hnl := HNL.out
        have HB0 := Hd.mk hb0
        have HOW := Hd.mk hown
        clear hb0
        go_wp2_with (at_builtin; refine wpList_app1b elEv rfl (.tmp 100) (.tmp 102) rfl hown rfl [.int .i64 j.d.kind, .string j.d.e.q.name, .int .u16 j.d.e.q.ty, .int .u16 j.d.e.q.cl, .slice j.d.e.ra j.d.e.rn j.d.e.rc, .int .i64 j.d.e.rcode, .int .i64 j.d.e.rank, .int .u64 j.d.e.expire, .int .u64 j.d.now, .int .i64 i, .string T.told.q.name, .int .u16 T.told.q.ty, .int .u16 T.told.q.cl, .slice T.told.ra T.told.rn T.told.rc, .int .i64 T.told.rcode, .int .i64 T.told.rank, .int .u64 T.told.expire, .bool T.is, .int .i64 T.err, .slice Ag gn gc] hsb rfl rfl (by simp [Value.oneCell']) (by omega) (by omega) hn0 ?_; intro g9 c9 w9 ho9 hf9 hb9 hg9 hor9; have HO9 := Hd.mk ho9; have HF9 := Hd.mk hf9; have HOR := Hd.mk (hor9.imp id fun h => Nat.le_trans HSZ.out h); clear ho9 hf9 hb9 hg9 hor9 hown)
        exact ⟨HF9.out.mono (fun _ hk => List.mem_cons_of_mem _ hk), ⟨_, _, rfl⟩, HB0.out.fr HF9.out HBO.out, _, _, rfl, HO9.out, HOR.out⟩
      · intro σ w' hR hd
        simp only [fill, Nat.reduceAdd, if_true, Bool.false_eq_true, if_false]
        obtain h93 : σ 93 = _ := hd 3 (by decide)
        rw [h93]
        clear h93
        clear hd
        go_wp2
        exact ⟨Fr.refl _ _, rfl⟩
      · intro σ w' hR hd
        simp only [fill, Nat.reduceAdd, if_true, Bool.false_eq_true, if_false]
        obtain h104 : σ 104 = _ := hd 14 (by decide)
        rw [h104]
        clear h104
        clear hd
        go_wp2
        exact ⟨Fr.refl _ _, rfl⟩
      · intro σ w' hR hd hH
        simp only [fill, Nat.reduceAdd, if_true, Bool.false_eq_true, if_false]
        obtain ⟨g7, c7, h103⟩ : (fun (v : Value) (w2 : World) => ∃ g cc, v = .slice (some ⟨g, 0, none⟩) (c.hist.length + 1) cc) (σ 103) w' := hd 13 (by decide)
        obtain h105 : σ 105 = _ := hd 15 (by decide)
        rw [h105]
        clear h105
        clear hd
        obtain ⟨hb0, g, cc, hl, hown, hor⟩ : Blk w' C.pc 58 [.slice (some ⟨C.gp, 0, none⟩) C.ps.length C.cap, hv] ∧ ∃ g cc, [σ 103] = [.slice (some ⟨g, 0, none⟩) (c.hist.length + 1) cc] ∧ w'.ownsRow C.n0 47 20 (.slice (some ⟨g, 0, none⟩) (c.hist.length + 1) cc) (c.hist.length + 1) (c.hist.flatMap Ev.c ++ ([.int .i64 j.d.kind, .string j.d.e.q.name, .int .u16 j.d.e.q.ty, .int .u16 j.d.e.q.cl, .slice j.d.e.ra j.d.e.rn j.d.e.rc, .int .i64 j.d.e.rcode, .int .i64 j.d.e.rank, .int .u64 j.d.e.expire, .int .u64 j.d.now, .int .i64 i, .string T.told.q.name, .int .u16 T.told.q.ty, .int .u16 T.told.q.cl, .slice T.told.ra T.told.rn T.told.rc, .int .i64 T.told.rcode, .int .i64 T.told.rank, .int .u64 T.told.expire, .bool T.is, .int .i64 T.err, .slice Ag gn gc] : List Value)) ∧ (hv.ownBlock = some g ∨ wa4.heap.size ≤ g) := hH
        have hs : σ 103 = .slice (some ⟨g, 0, none⟩) (c.hist.length + 1) cc := by simpa using hl
        rw [hs]
        have xl := hb0.cell (i := 1) rfl
        have xf := hb0.free 1
        have HO := Hd.mk (And.intro hown hor)
        have HB0 := Hd.mk hb0
        clear h103 hown hor hl hb0 hs
        go_wp2
        exact ⟨fr_set.mono (by simp), trivial, _, _, HB0.out.set 1 _, own_fr HO.out.1 fr_set (by simpa using own_ne HO.out.1 HB0.out (by decide)), HO.out.2⟩
    · intro σ w3 hR hG hH
      simp only [fill, Nat.reduceAdd, if_true, Bool.false_eq_true, if_false]
      clear hG
      obtain ⟨g2, cc2, hb5, ho5, hor5⟩ : ∃ g cc, Blk w3 C.pc 58 [.slice (some ⟨C.gp, 0, none⟩) C.ps.length C.cap, .slice (some ⟨g, 0, none⟩) (c.hist.length + 1) cc] ∧ w3.ownsRow C.n0 47 20 (.slice (some ⟨g, 0, none⟩) (c.hist.length + 1) cc) (c.hist.length + 1) (c.hist.flatMap Ev.c ++ ([.int .i64 j.d.kind, .string j.d.e.q.name, .int .u16 j.d.e.q.ty, .int .u16 j.d.e.q.cl, .slice j.d.e.ra j.d.e.rn j.d.e.rc, .int .i64 j.d.e.rcode, .int .i64 j.d.e.rank, .int .u64 j.d.e.expire, .int .u64 j.d.now, .int .i64 i, .string T.told.q.name, .int .u16 T.told.q.ty, .int .u16 T.told.q.cl, .slice T.told.ra T.told.rn T.told.rc, .int .i64 T.told.rcode, .int .i64 T.told.rank, .int .u64 T.told.expire, .bool T.is, .int .i64 T.err, .slice Ag gn gc] : List Value)) ∧ (hv.ownBlock = some g ∨ wa4.heap.size ≤ g) := hH
      have hf5 : Fr (C.pc :: hv.ownBlock.toList) wa4 w3 := (Fr.drew (Fr.refl _ _)).trans hR
      clear hR
      obtain ⟨wa5, rfl⟩ : ∃ x, x = w3 := ⟨_, rfl⟩
      have hnT : ∀ T', 58 ≠ T' → 47 ≠ T' → NoT wa4 (C.pc :: hv.ownBlock.toList) T' := fun T' h1 h2 => NoT.cons HC4.out.blk h1 (NoT.own HC4.out.hist.row h2)
      have HE5 : Hd (EvRow wa5 C.n0 (.slice (some ⟨g2, 0, none⟩) (c.hist.length + 1) cc2) (c.hist ++ [⟨j.d, i, T, .slice Ag gn gc⟩])) := Hd.mk ⟨by
        rw [List.length_append, List.flatMap_append]
        exact ho5, fun e he => by
        rcases List.mem_append.1 he with he | he
        · exact own_noT (HC4.out.hist.gone e he) hf5 (hnT _ (by decide) (by decide))
        · obtain rfl := List.mem_singleton.1 he
          exact own_noT HGQ4.out hf5 (hnT _ (by decide) (by decide))⟩
      have HNE : Hd (∀ k, hv.ownBlock = some k → k ≠ g1) := Hd.mk fun k hk e => by
        subst e
        rcases HOR4.out with h | h
        · exact HJL.out.2.2 _ hk h
        · have := (HC3.out.hist.row.lt _ hk).2; omega
      have HG1 : Hd (g1 < wa4.heap.size) := Hd.mk (HJ4.out.ev.row.lt g1 rfl).2
      have hvv : ∀ k, (Value.slice (some ⟨g1, 0, none⟩) (j.ev.length + 1) cc1).ownBlock = some k → k ∉ C.pc :: hv.ownBlock.toList := by
        intro k hk hx
        obtain rfl : g1 = k := by simpa [Value.ownBlock] using hk
        rcases List.mem_cons.1 hx with e | hx
        · obtain ⟨cs', hc⟩ := own_is_blk HJ4.out.ev.row
          exact (hc.ne HC4.out.blk (by decide)) e
        · exact HNE.out g1 (by simpa using hx) rfl
      have HC5 := Hd.mk (HC4.out.told hf5 hb5 HE5.out)
      have HJ5 := Hd.mk (HJ4.out.fr hf5 HJS.out (hnT _ (by decide) (by decide)) (hnT _ (by decide) (by decide)) hvv)
      have HF5 : Hd (Fr (j.p :: C.pc :: (hv.ownBlock.toList ++ j.vv.ownBlock.toList ++ B.wr)) w wa5) := Hd.mk
        (((HF3.out.mono (fun x hx => by simp only [List.mem_cons, List.mem_append] at hx ⊢; rcases hx with h | h <;> simp [h])).trans (HF4.out.mono (fun x hx => by simp only [List.mem_cons, List.mem_append] at hx ⊢; rcases hx with h | h <;> simp [h]))).trans (hf5.mono (fun x hx => by simp only [List.mem_cons, List.mem_append] at hx ⊢; rcases hx with h | h <;> simp [h])))
      have HSZ : Hd (w.heap.size ≤ wa3.heap.size ∧ wa3.heap.size ≤ wa4.heap.size) := Hd.mk ⟨HF3.out.size, HF4.out.size⟩
      have HOR5 := Hd.mk hor5
      have j10 : wa5.cell? ⟨j.p, 10, none⟩ = some j.lv := HJ5.out.blk.cell (i := 10) rfl
      rw [HLV.out] at j10
      simp only [List.length_cons] at j10
      clear hb5 ho5 hor5 hf5 hnT hvv
      go_wp2
      go_ret
      obtain rfl := HT.out
      unfold StepDo
      refine ⟨_, _, _, rfl, HC5.out, HJ5.out, HF5.out, fun k hk => ?_, fun k hk => ?_, fun k hk => ?_⟩
      · obtain rfl : g2 = k := by simpa [Value.ownBlock] using hk
        exact HOR5.out.imp id fun h => by have := HSZ.out; omega
      · obtain rfl : g1 = k := by simpa [Value.ownBlock] using hk
        exact HOR4.out.imp id fun h => by have := HSZ.out; omega
      · obtain rfl : g2 = k := by simpa [Value.ownBlock] using hk
        intro h
        have e : g1 = g2 := by simpa [Value.ownBlock] using h
        rcases HOR5.out with h | h
        · exact HNE.out _ h e.symm
        · have := HG1.out; omega
end Go.Proofs.Ytogjfcmclfehkaa
