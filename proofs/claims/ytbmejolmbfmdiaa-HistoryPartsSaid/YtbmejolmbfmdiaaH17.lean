import Derived.Test.YtbmejolmbfmdiaaH16
namespace Go.Proofs.Ytbmejolmbfmdiaa
open Go Go.RowKit Go.Lib Go.Proofs.MapL

theorem setRow_fr {w : World} {b T : Nat} {c c' : List Value} (h : Blk w b T c) : Blk (w.setRow b c'.toArray) b T c' ∧ Fr [b] w (w.setRow b c'.toArray) := by
  unfold Blk at h ⊢
  refine ⟨?_, rfl, rfl, rfl, by simp [World.setRow], fun k hk hx => ?_⟩
  · simp [World.setRow, Array.getElem?_modify, h]
  · have hne : ¬ b = k := fun e => hx (by simp [e])
    simp [World.setRow, Array.getElem?_modify, hne]
/-- A store of a whole struct. -/
theorem wpList_storeBlk {P : Program} {w : World} {ops : Array Oper} {rest : List Oper} {o : Oper} {a : Act} {Q : Exit → Act → World → Prop} {ty b : Nat} {x y : Operand} {c c' : List Value}
    (hg : Region.wanted o (yielded ops a.tmps) = true) (hop : o.op = .store ty x y) (hx : a.eval x = .pointer (some ⟨b, 0, none⟩)) (hy : a.eval y = .agg c'.toArray) (hb : Blk w b ty c) (hi : (P.info? ty).map (·.size) = some c'.length) (ho : c.length = c'.length)
    (h1 : ∀ v ∈ c', v.oneCell' = true) (hK : ∀ w', Blk w' b ty c' → Fr [b] w w' → wpList P ops Q rest (a.put o.dst undef) w') : wpList P ops Q (o :: rest) a w := by
  refine wpList_step fun K hK' => ?_
  rw [if_pos hg]
  unfold Oper.wp
  have hs := run_storeVar_row (P := P) w b ty ty c.toArray c'.toArray hb (by simpa using hi) (by simpa using ho) (by simpa using h1)
  have hr : (execOp a.eval o).run P w = .ok .skip (w.setRow b c'.toArray) := by
    simp [execOp, hop, hx, hy, Instr.storeAt, Instr.sureAddr, hs, Result.andThen]
  rw [hr]
  obtain ⟨k1, k2⟩ := setRow_fr (c' := c') hb
  exact hK' _ _ (hK _ k1 k2)
set_option maxRecDepth 100000 in
set_option maxHeartbeats 8000000 in
theorem made_calls (x : Ev) (w : World) : Calls Try.prog 6 #[x.v] w fun r w' => r = .returned x.v ∧ Fr [] w w' := by
  have hf : Fr [] w ((w.alloc (.cells (evC x).toArray 42)).alloc (.cells (evC x).toArray 38)) := ((Fr.refl [] w).alloc _).alloc _
  have HF := Hd.mk hf
  clear hf
  unfold Ev.v
  go_enter Try.func6, Try.ntmps6
  go_upto_region 1 with (fail)
  clear HF
  refine wp_name ?_; intro w1 hw1
  obtain ⟨hb1, hb2, hf1⟩ := blk2_of (T1 := 42) (T2 := 38) (c1 := evC x) (c2 := [.int .i64 0, .string ⟨#[]⟩, .int .u16 0, .int .u16 0, .slice none 0 0, .int .i64 0, .int .i64 0, .int .u64 0, .int .u64 0, .int .i64 0, .string ⟨#[]⟩, .int .u16 0, .int .u16 0, .slice none 0 0, .int .i64 0, .int .i64 0, .int .u64 0, .bool false, .int .i64 0, .slice none 0 0]) hw1
  clear hw1
  obtain ⟨b1, hb1e⟩ : ∃ p, w.heap.size = p := ⟨_, rfl⟩
  rw [hb1e] at hb1 hb2 ⊢
  have c0 : w1.cell? ⟨b1, 0, none⟩ = some (.int .i64 x.kind) := hb1.cell (i := 0) rfl
  have c1 : w1.cell? ⟨b1, 1, none⟩ = some (.string x.de.q.name) := hb1.cell (i := 1) rfl
  have c2 : w1.cell? ⟨b1, 2, none⟩ = some (.int .u16 x.de.q.ty) := hb1.cell (i := 2) rfl
  have c3 : w1.cell? ⟨b1, 3, none⟩ = some (.int .u16 x.de.q.cl) := hb1.cell (i := 3) rfl
  have c4 : w1.cell? ⟨b1, 4, none⟩ = some (.slice x.de.ra x.de.rn x.de.rc) := hb1.cell (i := 4) rfl
  have c5 : w1.cell? ⟨b1, 5, none⟩ = some (.int .i64 x.de.rcode) := hb1.cell (i := 5) rfl
  have c6 : w1.cell? ⟨b1, 6, none⟩ = some (.int .i64 x.de.rank) := hb1.cell (i := 6) rfl
  have c7 : w1.cell? ⟨b1, 7, none⟩ = some (.int .u64 x.de.expire) := hb1.cell (i := 7) rfl
  have c8 : w1.cell? ⟨b1, 8, none⟩ = some (.int .u64 x.now) := hb1.cell (i := 8) rfl
  have c9 : w1.cell? ⟨b1, 9, none⟩ = some (.int .i64 x.sh) := hb1.cell (i := 9) rfl
  have c10 : w1.cell? ⟨b1, 10, none⟩ = some (.string x.told.q.name) := hb1.cell (i := 10) rfl
  have c11 : w1.cell? ⟨b1, 11, none⟩ = some (.int .u16 x.told.q.ty) := hb1.cell (i := 11) rfl
  have c12 : w1.cell? ⟨b1, 12, none⟩ = some (.int .u16 x.told.q.cl) := hb1.cell (i := 12) rfl
  have c13 : w1.cell? ⟨b1, 13, none⟩ = some (.slice x.told.ra x.told.rn x.told.rc) := hb1.cell (i := 13) rfl
  have c14 : w1.cell? ⟨b1, 14, none⟩ = some (.int .i64 x.told.rcode) := hb1.cell (i := 14) rfl
  have c15 : w1.cell? ⟨b1, 15, none⟩ = some (.int .i64 x.told.rank) := hb1.cell (i := 15) rfl
  have c16 : w1.cell? ⟨b1, 16, none⟩ = some (.int .u64 x.told.expire) := hb1.cell (i := 16) rfl
  have c17 : w1.cell? ⟨b1, 17, none⟩ = some (.bool x.is) := hb1.cell (i := 17) rfl
  have c18 : w1.cell? ⟨b1, 18, none⟩ = some (.int .i64 x.err) := hb1.cell (i := 18) rfl
  have c19 : w1.cell? ⟨b1, 19, none⟩ = some (.slice x.ga x.gn x.gc) := hb1.cell (i := 19) rfl
  have HB2 := Hd.mk hb2
  have HF1 := Hd.mk hf1
  have HBE := Hd.mk hb1e
  rw [show Value.agg #[.int .i64 x.kind, .string x.de.q.name, .int .u16 x.de.q.ty, .int .u16 x.de.q.cl, .slice x.de.ra x.de.rn x.de.rc, .int .i64 x.de.rcode, .int .i64 x.de.rank, .int .u64 x.de.expire, .int .u64 x.now, .int .i64 x.sh, .string x.told.q.name, .int .u16 x.told.q.ty, .int .u16 x.told.q.cl, .slice x.told.ra x.told.rn x.told.rc, .int .i64 x.told.rcode, .int .i64 x.told.rank, .int .u64 x.told.expire, .bool x.is, .int .i64 x.err, .slice x.ga x.gn x.gc] = x.v from rfl]
  clear hb1 hb2 hf1 hb1e
  go_wp2_with (refine wpList_storeBlk (c' := evC x) rfl rfl rfl rfl HB2.out (by kernel_rfl) rfl (evC_cell x) ?_; intro w2 hb3 hf3)
  refine bodyPost_ret (results_cell_row rfl _ _ (b1 + 1) 38 (evC x).toArray (0, 0) _ rfl hb3 Try.underlying38 rfl (by kernel_rfl)) rfl ⟨rfl, HF1.out.weak hf3 (fun y hy => .inr (by have := HBE.out; simp at hy; omega))⟩
end Go.Proofs.Ytbmejolmbfmdiaa
