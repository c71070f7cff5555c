import Derived.Test.YtogjfcmclfehkaaC22
import Derived.Test.YtogjfcmclfehkaaCE
namespace Go.Proofs.Ytogjfcmclfehkaa
open Go Go.RowKit Go.Proofs.MapL PPM Go.Proofs.YtogjfcmclfehkaaW.PrintWords

set_option maxRecDepth 100000 in
set_option maxHeartbeats 8000000 in
theorem made_calls (d : Dd) (w : World) : Calls Try.prog 10 #[d.v] w fun r w' => r = .returned d.v ∧ Fr [] w w' := by
  unfold Dd.v
  go_enter Try.func10, Try.ntmps10
  go_wp2_with (refine wpList_store_row rfl 39 (.tmp 2) (.tmp 9) rfl (w.heap.size + 1) #[.int .i64 d.kind, .string d.e.q.name, .int .u16 d.e.q.ty, .int .u16 d.e.q.cl, .slice d.e.ra d.e.rn d.e.rc, .int .i64 d.e.rcode, .int .i64 d.e.rank, .int .u64 d.e.expire, .int .u64 d.now] rfl rfl 39 #[.int .i64 0, .string ⟨#[]⟩, .int .u16 0, .int .u16 0, .slice none 0 0, .int .i64 0, .int .i64 0, .int .u64 0, .int .u64 0] (by have h := heap_alloc_last (w.alloc (.cells #[.int .i64 d.kind, .string d.e.q.name, .int .u16 d.e.q.ty, .int .u16 d.e.q.cl, .slice d.e.ra d.e.rn d.e.rc, .int .i64 d.e.rcode, .int .i64 d.e.rank, .int .u64 d.e.expire, .int .u64 d.now] 41)) (.cells #[.int .i64 0, .string ⟨#[]⟩, .int .u16 0, .int .u16 0, .slice none 0 0, .int .i64 0, .int .i64 0, .int .u64 0, .int .u64 0] 39); simpa using h) (by kernel_rfl) rfl (by simp [Value.oneCell']) ?_; rw [show w.heap.size + 1 = (w.alloc (.cells #[.int .i64 d.kind, .string d.e.q.name, .int .u16 d.e.q.ty, .int .u16 d.e.q.cl, .slice d.e.ra d.e.rn d.e.rc, .int .i64 d.e.rcode, .int .i64 d.e.rank, .int .u64 d.e.expire, .int .u64 d.now] 41)).heap.size by simp, World.setRow_alloc_new])
  refine ret_name ?_; intro w2 hw2
  have hf : Fr [] w w2 := by rw [hw2]; exact ((Fr.refl [] w).alloc _).alloc _
  have hb : Blk w2 (w.heap.size + 1) 39 [.int .i64 d.kind, .string d.e.q.name, .int .u16 d.e.q.ty, .int .u16 d.e.q.cl, .slice d.e.ra d.e.rn d.e.rc, .int .i64 d.e.rcode, .int .i64 d.e.rank, .int .u64 d.e.expire, .int .u64 d.now] := by
    rw [hw2]
    have h0 := Blk.new (w.alloc (.cells #[.int .i64 d.kind, .string d.e.q.name, .int .u16 d.e.q.ty, .int .u16 d.e.q.cl, .slice d.e.ra d.e.rn d.e.rc, .int .i64 d.e.rcode, .int .i64 d.e.rank, .int .u64 d.e.expire, .int .u64 d.now] 41)) 39 [.int .i64 d.kind, .string d.e.q.name, .int .u16 d.e.q.ty, .int .u16 d.e.q.cl, .slice d.e.ra d.e.rn d.e.rc, .int .i64 d.e.rcode, .int .i64 d.e.rank, .int .u64 d.e.expire, .int .u64 d.now]
    simp only [World.size_alloc] at h0
    exact h0
  obtain ⟨r0, r1, r2, r3, r4, r5, r6, r7, r8⟩ : w2.cell? ⟨w.heap.size + 1, 0, none⟩ = some (.int .i64 d.kind) ∧ w2.cell? ⟨w.heap.size + 1, 1, none⟩ = some (.string d.e.q.name) ∧ w2.cell? ⟨w.heap.size + 1, 2, none⟩ = some (.int .u16 d.e.q.ty) ∧ w2.cell? ⟨w.heap.size + 1, 3, none⟩ = some (.int .u16 d.e.q.cl) ∧ w2.cell? ⟨w.heap.size + 1, 4, none⟩ = some (.slice d.e.ra d.e.rn d.e.rc) ∧ w2.cell? ⟨w.heap.size + 1, 5, none⟩ = some (.int .i64 d.e.rcode) ∧ w2.cell? ⟨w.heap.size + 1, 6, none⟩ = some (.int .i64 d.e.rank) ∧ w2.cell? ⟨w.heap.size + 1, 7, none⟩ = some (.int .u64 d.e.expire) ∧ w2.cell? ⟨w.heap.size + 1, 8, none⟩ = some (.int .u64 d.now) := ⟨hb.cell rfl, hb.cell rfl, hb.cell rfl, hb.cell rfl, hb.cell rfl, hb.cell rfl, hb.cell rfl, hb.cell rfl, hb.cell rfl⟩
  clear hw2 hb
  exact bodyPost_ret (v := .agg #[.int .i64 d.kind, .string d.e.q.name, .int .u16 d.e.q.ty, .int .u16 d.e.q.cl, .slice d.e.ra d.e.rn d.e.rc, .int .i64 d.e.rcode, .int .i64 d.e.rank, .int .u64 d.e.expire, .int .u64 d.now]) (by simp [results, Try.results10, go_sem, r0, r1, r2, r3, r4, r5, r6, r7, r8]) rfl ⟨rfl, hf⟩
end Go.Proofs.Ytogjfcmclfehkaa
