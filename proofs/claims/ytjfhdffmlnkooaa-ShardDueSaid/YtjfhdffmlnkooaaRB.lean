import Derived.Test.YtjfhdffmlnkooaaRA
namespace Go.Proofs.Ytjfhdffmlnkooaa
open Go Go.RowKit Go.Proofs.MapL PPM Go.Proofs.YtjfhdffmlnkooaaW.PrintWords

theorem Blk.cells9 {w : World} {g T : Nat} {c0 c1 c2 c3 c4 c5 c6 c7 c8 : Value} (H : Blk w g T [c0, c1, c2, c3, c4, c5, c6, c7, c8]) :
    w.cell? ⟨g, 0, none⟩ = some c0 ∧ w.cell? ⟨g, 1, none⟩ = some c1 ∧ w.cell? ⟨g, 2, none⟩ = some c2 ∧ w.cell? ⟨g, 3, none⟩ = some c3 ∧ w.cell? ⟨g, 4, none⟩ = some c4 ∧ w.cell? ⟨g, 5, none⟩ = some c5 ∧ w.cell? ⟨g, 6, none⟩ = some c6 ∧ w.cell? ⟨g, 7, none⟩ = some c7 ∧ w.cell? ⟨g, 8, none⟩ = some c8 := ⟨H.cell rfl, H.cell rfl, H.cell rfl, H.cell rfl, H.cell rfl, H.cell rfl, H.cell rfl, H.cell rfl, H.cell rfl⟩
set_option maxRecDepth 100000 in
set_option maxHeartbeats 4000000 in
theorem do_evict {w00 w : World} {B : ShB} {gx cx gu cu gt ct : Nat} {s : SS} (HS : DoSt w00 w B gx cx gu cu gt ct s) (d : Dd) (hk : d.kind = 2) : Calls Try.prog 19 #[.pointer (some ⟨B.p, 0, none⟩), refV gx cx gu cu gt ct s.l.length s.hand, d.v] w fun r w' => ∃ gx cx gu cu gt ct, r = .returned (.tuple #[refV gx cx gu cu gt ct (evictS s d.e.q).l.length (evictS s d.e.q).hand, .bool true]) ∧ DoSt w00 w' B gx cx gu cu gt ct (evictS s d.e.q) ∧ Fr B.wr w w' := by
  have h := HS.rf
  have HD := Hd.mk HS
  have HK := Hd.mk hk
  clear HS hk
  have H := Hd.mk h
  clear h
  unfold refV Dd.v
  go_enter Try.func19, Try.ntmps19
  go_upto_region 1 with (fail)
  refine wp_name ?_; intro w0 hw0
  have hf0 : Fr [] w w0 := by rw [hw0]; exact (((Fr.refl [] w).alloc _).alloc _).alloc _
  have hxb0 : Blk w0 (w.heap.size) 51 [.slice (some ⟨gx, 0, none⟩) s.l.length cx, .slice (some ⟨gu, 0, none⟩) s.l.length cu, .slice (some ⟨gt, 0, none⟩) s.l.length ct, .int .i64 s.hand] := by
    rw [hw0]
    have h0 := ((Blk.new (w) 51 [.slice (some ⟨gx, 0, none⟩) s.l.length cx, .slice (some ⟨gu, 0, none⟩) s.l.length cu, .slice (some ⟨gt, 0, none⟩) s.l.length ct, .int .i64 s.hand]).alloc (.cells #[.int .i64 d.kind, .string d.e.q.name, .int .u16 d.e.q.ty, .int .u16 d.e.q.cl, .slice d.e.ra d.e.rn d.e.rc, .int .i64 d.e.rcode, .int .i64 d.e.rank, .int .u64 d.e.expire, .int .u64 d.now] 43)).alloc (.cells #[.slice none 0 0, .slice none 0 0, .slice none 0 0, .int .i64 0] 51)
    exact h0
  have hdb0 : Blk w0 (w.heap.size + 1) 43 [.int .i64 d.kind, .string d.e.q.name, .int .u16 d.e.q.ty, .int .u16 d.e.q.cl, .slice d.e.ra d.e.rn d.e.rc, .int .i64 d.e.rcode, .int .i64 d.e.rank, .int .u64 d.e.expire, .int .u64 d.now] := by
    rw [hw0]
    have h0 := (Blk.new ((w).alloc (.cells #[.slice (some ⟨gx, 0, none⟩) s.l.length cx, .slice (some ⟨gu, 0, none⟩) s.l.length cu, .slice (some ⟨gt, 0, none⟩) s.l.length ct, .int .i64 s.hand] 51)) 43 [.int .i64 d.kind, .string d.e.q.name, .int .u16 d.e.q.ty, .int .u16 d.e.q.cl, .slice d.e.ra d.e.rn d.e.rc, .int .i64 d.e.rcode, .int .i64 d.e.rank, .int .u64 d.e.expire, .int .u64 d.now]).alloc (.cells #[.slice none 0 0, .slice none 0 0, .slice none 0 0, .int .i64 0] 51)
    simp only [World.size_alloc] at h0
    exact h0
  have hrb0 : Blk w0 (w.heap.size + 1 + 1) 51 [.slice none 0 0, .slice none 0 0, .slice none 0 0, .int .i64 0] := by
    rw [hw0]
    have h0 := Blk.new (((w).alloc (.cells #[.slice (some ⟨gx, 0, none⟩) s.l.length cx, .slice (some ⟨gu, 0, none⟩) s.l.length cu, .slice (some ⟨gt, 0, none⟩) s.l.length ct, .int .i64 s.hand] 51)).alloc (.cells #[.int .i64 d.kind, .string d.e.q.name, .int .u16 d.e.q.ty, .int .u16 d.e.q.cl, .slice d.e.ra d.e.rn d.e.rc, .int .i64 d.e.rcode, .int .i64 d.e.rank, .int .u64 d.e.expire, .int .u64 d.now] 43)) 51 [.slice none 0 0, .slice none 0 0, .slice none 0 0, .int .i64 0]
    simp only [World.size_alloc] at h0
    exact h0
  clear hw0
  obtain ⟨xb, h_xb⟩ : ∃ xb, w.heap.size = xb := ⟨_, rfl⟩
  obtain ⟨db, h_db⟩ : ∃ db, xb + 1 = db := ⟨_, rfl⟩
  obtain ⟨rb, h_rb⟩ : ∃ rb, db + 1 = rb := ⟨_, rfl⟩
  simp only [h_xb, h_db, h_rb] at hxb0 hdb0 hrb0 ⊢
  have HWL : Hd (w.heap.size ≤ xb ∧ w.heap.size ≤ db ∧ w.heap.size ≤ rb) := Hd.mk (by omega)
  have HNE : Hd (xb ≠ db ∧ xb ≠ rb ∧ db ≠ rb) := Hd.mk (by omega)
  have HLT : Hd (xb < w0.heap.size ∧ db < w0.heap.size ∧ rb < w0.heap.size) := Hd.mk (by have := hxb0.lt; have := hdb0.lt; have := hrb0.lt; omega)
  have HXB := Hd.mk hxb0
  have HDB := Hd.mk hdb0
  have HRB := Hd.mk hrb0
  have H0 := Hd.mk (H.out.fr hf0)
  have HF0 := Hd.mk hf0
  have hl64 := H.out.len
  have hhd := H.out.hand
  clear hf0 hxb0 h_xb hdb0 h_db hrb0 h_rb
  have HD0 := Hd.mk (HD.out.fr0 HF0.out)
  have hk := HK.out
  obtain ⟨e0, e1, e2, e3, e4, e5, e6, e7, e8⟩ := HDB.out.cells9

  rw [hk] at e0
  go_wp2_with fail
  clear e0 e1 e2 e3 e4 e5 e6 e7 e8
  have HRA := Hd.mk (And.intro (blk_apart HD0.out.sh HDB.out (by decide) (by decide) (by decide)) (And.intro (blk_apart HD0.out.sh HXB.out (by decide) (by decide) (by decide)) (blk_apart HD0.out.sh HRB.out (by decide) (by decide) (by decide))))
  refine (evict_calls HD0.out.sh d.e.q).mono ?_
  rintro r w1 ⟨rfl, h1, hf1⟩
  have HSH1 := Hd.mk h1
  have HRF1 := Hd.mk (ref_step HD0.out.sh HD0.out.rf hf1)
  have HDB1 := Hd.mk (HDB.out.fr hf1 HRA.out.1)
  have HXB1 := Hd.mk (HXB.out.fr hf1 HRA.out.2.1)
  have HRB1 := Hd.mk (HRB.out.fr hf1 HRA.out.2.2)
  have HF1 := Hd.mk (fr_over HD0.out.fr HD0.out.new hf1)
  have HG1 := Hd.mk ((HF0.out.mono (T := B.wr) (by simp)).trans hf1)
  clear h1 hf1
  obtain ⟨e0, e1, e2, e3, e4, e5, e6, e7, e8⟩ := HDB1.out.cells9

  obtain ⟨b0, b1, b2, b3, bf⟩ := HXB1.out.cells4
  go_wp2_with fail
  refine (revict_calls HRF1.out d.e.q).mono ?_
  rintro r w2 ⟨gx', cx', gu', cu', gt', ct', rfl, h2, hf2⟩
  have H2 := Hd.mk h2
  have HSH2 := Hd.mk (HSH1.out.fr0 hf2)
  have HRB2 := Hd.mk (HRB1.out.fr hf2 (by simp))
  have HF2 := Hd.mk (HF1.out.trans hf2)
  have HG2 := Hd.mk (HG1.out.trans (hf2.mono (by simp)))
  clear h2 hf2 e0 e1 e2 e3 e4 e5 e6 e7 e8 b0 b1 b2 b3 bf
  obtain ⟨fb, hfb⟩ : ∃ fb, (s.find d.e.q).isSome = fb := ⟨_, rfl⟩
  rw [hfb]
  unfold refV
  go_upto_region 13 with (fail)
  refine wp_name ?_; intro w3 hw3
  have hf3 := alloc_of hw3
  have hyb := blk_of (T := 51) (c := [.slice (some ⟨gx', 0, none⟩) s.l.length cx', .slice (some ⟨gu', 0, none⟩) s.l.length cu', .slice (some ⟨gt', 0, none⟩) s.l.length ct', .int .i64 s.hand]) hw3
  clear hw3
  have H3 := Hd.mk (H2.out.fr hf3)
  have HSH3 := Hd.mk (HSH2.out.fr0 hf3)
  have HRB3 := Hd.mk (HRB2.out.fr hf3 (by simp))
  have HF3 := Hd.mk (HF2.out.trans hf3)
  have HG3 := Hd.mk (HG2.out.trans (hf3.mono (by simp)))
  clear hf3 hfb
  obtain ⟨b0, b1, b2, b3, bf⟩ := hyb.cells4
  obtain ⟨d0, d1, d2, d3, df⟩ := HRB3.out.cells4
  have HLN : Hd ((evictS s d.e.q).l.length = s.l.length ∧ (evictS s d.e.q).hand = s.hand) := Hd.mk (by unfold evictS; split; exact ⟨at_len _ _ _, rfl⟩; exact ⟨rfl, rfl⟩)
  have hbb : (fb == fb) = true := by simp
  go_wp2_with fail
  refine ret_name ?_; intro w5 hw5
  obtain ⟨h5, f5⟩ := Blk.four HRB3.out hw5
  clear d0 d1 d2 d3 df hw5 b0 b1 b2 b3 bf
  obtain ⟨y0, y1, y2, y3, -⟩ := h5.cells4
  have hra := H3.out.frs f5 (by simpa using own_ne H3.out.x HRB3.out (by decide) _ rfl) (by simpa using own_ne H3.out.u HRB3.out (by decide) _ rfl) (by simpa using own_ne H3.out.t HRB3.out (by decide) _ rfl)
  have hz := HD.out.fr.size
  have hsh5 : ShE w5 B (evictS s d.e.q) := HSH3.out.fr f5 (fun k hk => by have := HD.out.sh.lt k hk; have := HWL.out; simp; omega)
  exact bodyPost_ret (v := .tuple #[refV gx' cx' gu' cu' gt' ct' s.l.length s.hand, .bool true]) (by simp [results, Try.results19, go_sem, y0, y1, y2, y3, refV]) rfl ⟨gx', cx', gu', cu', gt', ct', by rw [HLN.out.1, HLN.out.2]; rfl, ⟨hsh5, hra, HF3.out.weak f5 (by have := HWL.out; simp; omega), HD.out.new, HD.out.en.evict (RdE.zero _) _⟩, HG3.out.weak f5 (fun x hx => .inr (by simp only [List.mem_singleton] at hx; subst hx; exact HWL.out.2.2))⟩
end Go.Proofs.Ytjfhdffmlnkooaa
namespace Go.Proofs.Ytjfhdffmlnkooaa
open Go Go.RowKit Go.Proofs.MapL PPM Go.Proofs.YtjfhdffmlnkooaaW.PrintWords

theorem look_len (s : SS) (q : Qn) (now : Int) : (lookR s q now).1.l.length = s.l.length ∧ (lookR s q now).1.hand = s.hand := by
  unfold lookR
  split
  · exact ⟨rfl, rfl⟩
  · split
    · exact ⟨rfl, rfl⟩
    · split
      · exact ⟨at_len _ _ _, rfl⟩
      · exact ⟨rfl, rfl⟩
theorem alloc2_of {w w' : World} {T1 T2 : Nat} {c1 c2 : Array Value} (h : w' = (w.alloc (.cells c1 T1)).alloc (.cells c2 T2)) : Fr [] w w' := by rw [h]; exact ((Fr.refl [] w).alloc _).alloc _
theorem alloc2_fst {w w' : World} {T1 T2 : Nat} {c1 : List Value} {c2 : Array Value} (h : w' = (w.alloc (.cells c1.toArray T1)).alloc (.cells c2 T2)) : Blk w' w.heap.size T1 c1 := by
  rw [h]; exact (Blk.new w T1 c1).alloc _
theorem alloc2_snd {w w' : World} {T1 T2 : Nat} {c1 : Array Value} {c2 : List Value} (h : w' = (w.alloc (.cells c1 T1)).alloc (.cells c2.toArray T2)) : Blk w' (w.heap.size + 1) T2 c2 := by
  have h0 := Blk.new (w.alloc (.cells c1 T1)) T2 c2
  rw [World.size_alloc] at h0
  rw [h]; exact h0
set_option maxRecDepth 100000 in
set_option maxHeartbeats 8000000 in
theorem do_due {w00 w : World} {B : ShB} {gx cx gu cu gt ct : Nat} {s : SS} (HS : DoSt w00 w B gx cx gu cu gt ct s) (d : Dd) (hk : d.kind ≠ 0 ∧ d.kind ≠ 1 ∧ d.kind ≠ 2) (ht : TOk d.now) (hdl : (dueQ s d.now).length < 1000000) : Calls Try.prog 19 #[.pointer (some ⟨B.p, 0, none⟩), refV gx cx gu cu gt ct s.l.length s.hand, d.v] w fun r w' => ∃ gx cx gu cu gt ct, r = .returned (.tuple #[refV gx cx gu cu gt ct (dueS s d.now).l.length (dueS s d.now).hand, .bool true]) ∧ DoSt w00 w' B gx cx gu cu gt ct (dueS s d.now) ∧ Fr B.wr w w' := by
  have HDL := Hd.mk hdl
  clear hdl
  have h := HS.rf
  have HD := Hd.mk HS
  have HK := Hd.mk hk
  have HT := Hd.mk ht
  clear HS hk ht
  have H := Hd.mk h
  clear h
  unfold refV Dd.v
  go_enter Try.func19, Try.ntmps19
  go_upto_region 1 with (fail)
  refine wp_name ?_; intro w0 hw0
  have hf0 : Fr [] w w0 := by rw [hw0]; exact (((Fr.refl [] w).alloc _).alloc _).alloc _
  have hxb0 : Blk w0 (w.heap.size) 51 [.slice (some ⟨gx, 0, none⟩) s.l.length cx, .slice (some ⟨gu, 0, none⟩) s.l.length cu, .slice (some ⟨gt, 0, none⟩) s.l.length ct, .int .i64 s.hand] := by
    rw [hw0]
    have h0 := ((Blk.new (w) 51 [.slice (some ⟨gx, 0, none⟩) s.l.length cx, .slice (some ⟨gu, 0, none⟩) s.l.length cu, .slice (some ⟨gt, 0, none⟩) s.l.length ct, .int .i64 s.hand]).alloc (.cells #[.int .i64 d.kind, .string d.e.q.name, .int .u16 d.e.q.ty, .int .u16 d.e.q.cl, .slice d.e.ra d.e.rn d.e.rc, .int .i64 d.e.rcode, .int .i64 d.e.rank, .int .u64 d.e.expire, .int .u64 d.now] 43)).alloc (.cells #[.slice none 0 0, .slice none 0 0, .slice none 0 0, .int .i64 0] 51)
    exact h0
  have hdb0 : Blk w0 (w.heap.size + 1) 43 [.int .i64 d.kind, .string d.e.q.name, .int .u16 d.e.q.ty, .int .u16 d.e.q.cl, .slice d.e.ra d.e.rn d.e.rc, .int .i64 d.e.rcode, .int .i64 d.e.rank, .int .u64 d.e.expire, .int .u64 d.now] := by
    rw [hw0]
    have h0 := (Blk.new ((w).alloc (.cells #[.slice (some ⟨gx, 0, none⟩) s.l.length cx, .slice (some ⟨gu, 0, none⟩) s.l.length cu, .slice (some ⟨gt, 0, none⟩) s.l.length ct, .int .i64 s.hand] 51)) 43 [.int .i64 d.kind, .string d.e.q.name, .int .u16 d.e.q.ty, .int .u16 d.e.q.cl, .slice d.e.ra d.e.rn d.e.rc, .int .i64 d.e.rcode, .int .i64 d.e.rank, .int .u64 d.e.expire, .int .u64 d.now]).alloc (.cells #[.slice none 0 0, .slice none 0 0, .slice none 0 0, .int .i64 0] 51)
    simp only [World.size_alloc] at h0
    exact h0
  have hrb0 : Blk w0 (w.heap.size + 1 + 1) 51 [.slice none 0 0, .slice none 0 0, .slice none 0 0, .int .i64 0] := by
    rw [hw0]
    have h0 := Blk.new (((w).alloc (.cells #[.slice (some ⟨gx, 0, none⟩) s.l.length cx, .slice (some ⟨gu, 0, none⟩) s.l.length cu, .slice (some ⟨gt, 0, none⟩) s.l.length ct, .int .i64 s.hand] 51)).alloc (.cells #[.int .i64 d.kind, .string d.e.q.name, .int .u16 d.e.q.ty, .int .u16 d.e.q.cl, .slice d.e.ra d.e.rn d.e.rc, .int .i64 d.e.rcode, .int .i64 d.e.rank, .int .u64 d.e.expire, .int .u64 d.now] 43)) 51 [.slice none 0 0, .slice none 0 0, .slice none 0 0, .int .i64 0]
    simp only [World.size_alloc] at h0
    exact h0
  clear hw0
  obtain ⟨xb, h_xb⟩ : ∃ xb, w.heap.size = xb := ⟨_, rfl⟩
  obtain ⟨db, h_db⟩ : ∃ db, xb + 1 = db := ⟨_, rfl⟩
  obtain ⟨rb, h_rb⟩ : ∃ rb, db + 1 = rb := ⟨_, rfl⟩
  simp only [h_xb, h_db, h_rb] at hxb0 hdb0 hrb0 ⊢
  have HWL : Hd (w.heap.size ≤ xb ∧ w.heap.size ≤ db ∧ w.heap.size ≤ rb) := Hd.mk (by omega)
  have HNE : Hd (xb ≠ db ∧ xb ≠ rb ∧ db ≠ rb) := Hd.mk (by omega)
  have HLT : Hd (xb < w0.heap.size ∧ db < w0.heap.size ∧ rb < w0.heap.size) := Hd.mk (by have := hxb0.lt; have := hdb0.lt; have := hrb0.lt; omega)
  have HXB := Hd.mk hxb0
  have HDB := Hd.mk hdb0
  have HRB := Hd.mk hrb0
  have H0 := Hd.mk (H.out.fr hf0)
  have HF0 := Hd.mk hf0
  have hl64 := H.out.len
  have hhd := H.out.hand
  clear hf0 hxb0 h_xb hdb0 h_db hrb0 h_rb
  have HD0 := Hd.mk (HD.out.fr0 HF0.out)
  have HRA := Hd.mk (And.intro (blk_apart HD0.out.sh HDB.out (by decide) (by decide) (by decide)) (And.intro (blk_apart HD0.out.sh HXB.out (by decide) (by decide) (by decide)) (blk_apart HD0.out.sh HRB.out (by decide) (by decide) (by decide))))
  obtain ⟨e0, e1, e2, e3, e4, e5, e6, e7, e8⟩ := HDB.out.cells9
  obtain ⟨k0, k1, k2⟩ : (d.kind == 0) = false ∧ (d.kind == 1) = false ∧ (d.kind == 2) = false := by simp only [beq_eq_false_iff_ne]; exact HK.out
  go_wp2_with fail
  clear e0 e1 e2 e3 e4 e5 e6 e7 e8
  refine (advance_calls HD0.out.sh HT.out).mono ?_
  rintro r w1 ⟨v1, rfl, hq1, -, h1, hf1⟩
  have HQ1 := Hd.mk hq1
  have HSH1 := Hd.mk h1
  have HRF1 := Hd.mk (ref_step HD0.out.sh HD0.out.rf hf1)
  have HDB1 := Hd.mk (HDB.out.fr hf1 HRA.out.1)
  have HXB1 := Hd.mk (HXB.out.fr hf1 HRA.out.2.1)
  have HRB1 := Hd.mk (HRB.out.fr hf1 HRA.out.2.2)
  have HF1 := Hd.mk (fr_over HD0.out.fr HD0.out.new hf1)
  have HG1 := Hd.mk ((HF0.out.mono (T := B.wr) (by simp)).trans hf1)
  clear h1 hf1 hq1
  obtain ⟨e0, e1, e2, e3, e4, e5, e6, e7, e8⟩ := HDB1.out.cells9
  obtain ⟨b0, b1, b2, b3, bf⟩ := HXB1.out.cells4
  go_wp2_with fail
  refine (radvance_calls HRF1.out d.now).mono ?_
  rintro r w2 ⟨gx', cx', gu', cu', gt', ct', v2, rfl, h2, hq2, hf2⟩
  have HQ2 := Hd.mk hq2
  have HQ1 := Hd.mk (own_fr HQ1.out hf2 (by simp))
  have H2 := Hd.mk h2
  have HSH2 := Hd.mk (HSH1.out.fr0 hf2)
  have HRB2 := Hd.mk (HRB1.out.fr hf2 (by simp))
  have HF2 := Hd.mk (HF1.out.trans hf2)
  have HG2 := Hd.mk (HG1.out.trans (hf2.mono (by simp)))
  clear h2 hf2 e0 e1 e2 e3 e4 e5 e6 e7 e8 b0 b1 b2 b3 bf hq2
  unfold refV
  go_upto_region 16 with (fail)
  refine wp_name ?_; intro w3 hw3
  have hf3 := alloc_of hw3
  have hyb := blk_of (T := 51) (c := [.slice (some ⟨gx', 0, none⟩) (dueS s d.now).l.length cx', .slice (some ⟨gu', 0, none⟩) (dueS s d.now).l.length cu', .slice (some ⟨gt', 0, none⟩) (dueS s d.now).l.length ct', .int .i64 (dueS s d.now).hand]) hw3
  clear hw3
  obtain ⟨yb, h_yb⟩ : ∃ yb, w2.heap.size = yb := ⟨_, rfl⟩
  have HYN : Hd (w.heap.size ≤ yb ∧ rb ≠ yb) := Hd.mk ⟨by have := HRB2.out.lt; have := HWL.out; omega, by have := HRB2.out.lt; omega⟩
  rw [h_yb] at hyb ⊢
  have HYB3 := Hd.mk hyb
  have H3 := Hd.mk (H2.out.fr hf3)
  have HSH3 := Hd.mk (HSH2.out.fr0 hf3)
  have HRB3 := Hd.mk (HRB2.out.fr hf3 (by simp))
  have HF3 := Hd.mk (HF2.out.trans hf3)
  have HG3 := Hd.mk (HG2.out.trans (hf3.mono (by simp)))
  have HQ1 := Hd.mk (own_fr HQ1.out hf3 (by simp))
  have HQ2 := Hd.mk (own_fr HQ2.out hf3 (by simp))
  clear hf3 hyb h_yb
  refine wp_region_gs { R := Fr [rb], R1 := Fr [], gs := [Is (.agg #[.slice (some ⟨gx', 0, none⟩) (dueS s d.now).l.length cx', .slice (some ⟨gu', 0, none⟩) (dueS s d.now).l.length cu', .slice (some ⟨gt', 0, none⟩) (dueS s d.now).l.length ct', .int .i64 (dueS s d.now).hand]), Is (v1), Is (v2), Is (.bool true), No, Is (.bool true)], ds := [some 118, some 119, some 120, some 121, none, some 7], fl := [false, false, false, false, true, false], hs := [fun _ w2 => Blk w2 rb 51 [.slice none 0 0, .slice none 0 0, .slice none 0 0, .int .i64 0], fun _ w2 => Blk w2 rb 51 [.slice (some ⟨gx', 0, none⟩) (dueS s d.now).l.length cx', .slice (some ⟨gu', 0, none⟩) (dueS s d.now).l.length cu', .slice (some ⟨gt', 0, none⟩) (dueS s d.now).l.length ct', .int .i64 (dueS s d.now).hand]], hd := [[], []] } [false, false, false, false, false, false, false, true, false, false, false, false, false, false, false, false, false, false, false, false, false, false, false, false, false, false, false, false, false, false, false, false, false, false, false, false, false, false, false, false, false, false, false, false, false, false, false, false, false, false, false, false, false, false, false, false, false, false, false, false, false, false, false, false, false, false, false, false, false, false, false, false, false, false, false, false, false, false, false, false, false, false, false, false, false, false, false, false, false, false, false, false, false, false, false, false, false, false, false, false, false, false, false, false, false, false, false, false, false, false, false, false, false, false, false, false, false, false, true, true, true, true] (by kernel_rfl) _ (by kernel_rfl) (by kernel_rfl) (by kernel_rfl) (by kernel_rfl) rfl [] (fun _ _ _ h1 h2 => h1.trans h2) (fun _ _ h => h.mono (by simp)) (staI (staI (staI (staI (staN (staI sta0)))))) (sth (fun _ _ _ hf h => h.fr hf (by simp)) (sth (fun _ _ _ hf h => h.fr hf (by simp)) sth0)) (fun _ _ h => h.size) _ (Fr.refl _ _) HRB3.out.drew ?_ ?_
  · refine ⟨?_, ?_, ?_, ?_, ?_, ?_, trivial⟩
    · intro σ w' hR hd
      simp only [fill, Nat.reduceAdd, if_true, Bool.false_eq_true, if_false]
      clear hd
      obtain ⟨b0, b1, b2, b3, bf⟩ := (HYB3.out.fr ((Fr.drew (Fr.refl [rb] _)).trans hR) (by simp; exact Ne.symm HYN.out.2)).cells4
      go_wp2
      exact ⟨Fr.refl _ _, rfl⟩
    · intro σ w' hR hd
      simp only [fill, Nat.reduceAdd, if_true, Bool.false_eq_true, if_false]
      clear hd
      go_wp2
      exact ⟨Fr.refl _ _, rfl⟩
    · intro σ w' hR hd
      simp only [fill, Nat.reduceAdd, if_true, Bool.false_eq_true, if_false]
      clear hd
      go_wp2
      exact ⟨Fr.refl _ _, rfl⟩
    · intro σ w' hR hd
      simp only [fill, Nat.reduceAdd, if_true, Bool.false_eq_true, if_false]
      obtain h119 : σ 119 = _ := hd 1 (by decide)
      obtain h120 : σ 120 = _ := hd 2 (by decide)
      rw [h119, h120]
      clear h119 h120
      clear hd
      go_wp2_with fail
      refine (asks_calls (own_fr HQ1.out ((Fr.drew (Fr.refl [rb] _)).trans hR) (by simpa using own_ne HQ1.out HRB3.out (by decide))) (own_fr HQ2.out ((Fr.drew (Fr.refl [rb] _)).trans hR) (by simpa using own_ne HQ2.out HRB3.out (by decide))) HDL.out).mono ?_
      rintro r w4 ⟨rfl, hf4⟩
      have HF4 := Hd.mk hf4
      clear hf4
      go_wp2
      exact ⟨HF4.out, rfl⟩
    · intro σ w' hR hd hH
      simp only [fill, Nat.reduceAdd, if_true, Bool.false_eq_true, if_false]
      obtain h118 : σ 118 = _ := hd 0 (by decide)
      rw [h118]
      clear h118
      clear hd
      have hb1 : Blk w' rb 51 [.slice none 0 0, .slice none 0 0, .slice none 0 0, .int .i64 0] := hH
      obtain ⟨d0, d1, d2, d3, df⟩ := hb1.cells4
      go_wp2
      obtain ⟨hq4, hf4⟩ := hb1.four rfl
      exact ⟨hf4, trivial, hq4⟩
    · intro σ w' hR hd
      simp only [fill, Nat.reduceAdd, if_true, Bool.false_eq_true, if_false]
      obtain h121 : σ 121 = _ := hd 3 (by decide)
      rw [h121]
      clear h121
      clear hd
      go_wp2
      exact ⟨Fr.refl _ _, rfl⟩
  · intro σ w3 hR hG hH
    obtain h7 : σ 7 = _ := hG 5 (by decide)
    simp only [fill, Nat.reduceAdd, if_true, Bool.false_eq_true, if_false, h7]
    clear h7
    clear hG
    have h5 : Blk w3 rb 51 [.slice (some ⟨gx', 0, none⟩) (dueS s d.now).l.length cx', .slice (some ⟨gu', 0, none⟩) (dueS s d.now).l.length cu', .slice (some ⟨gt', 0, none⟩) (dueS s d.now).l.length ct', .int .i64 (dueS s d.now).hand] := hH
    have f5 := ((Fr.drew (Fr.refl [rb] _)).trans hR)
    clear hR hH
    obtain ⟨y0, y1, y2, y3, -⟩ := h5.cells4
    have hra := H3.out.frs f5 (by simpa using own_ne H3.out.x HRB3.out (by decide) _ rfl) (by simpa using own_ne H3.out.u HRB3.out (by decide) _ rfl) (by simpa using own_ne H3.out.t HRB3.out (by decide) _ rfl)
    have HRA5 := Hd.mk hra
    have hz := HD.out.fr.size
    have HSH5 : Hd (ShE w3 B (dueS s d.now)) := Hd.mk (HSH3.out.fr f5 (fun k hk => by have := HD.out.sh.lt k hk; have := HWL.out; simp; omega))
    have HG5 := Hd.mk (HG3.out.weak f5 (fun x hx => .inr (by simp only [List.mem_singleton] at hx; subst hx; exact HWL.out.2.2)))
    have HF5 := Hd.mk (HF3.out.weak f5 (by have := HWL.out; simp; omega))
    clear hra f5 hz
    go_wp2_with fail
    exact bodyPost_ret (v := .tuple #[refV gx' cx' gu' cu' gt' ct' (dueS s d.now).l.length (dueS s d.now).hand, .bool true]) (by simp [results, Try.results19, go_sem, y0, y1, y2, y3, refV]) rfl ⟨gx', cx', gu', cu', gt', ct', rfl, ⟨HSH5.out, HRA5.out, HF5.out, HD.out.new, HD.out.en.due (RdE.zero _) _⟩, HG5.out⟩
set_option maxRecDepth 100000 in
set_option maxHeartbeats 8000000 in
theorem do_insert {w00 w : World} {B : ShB} {gx cx gu cu gt ct : Nat} {s : SS} (HS : DoSt w00 w B gx cx gu cu gt ct s) (d : Dd) (hk : d.kind = 0) (ht : TOk d.now) (he : RdE w00 d.e) (hte : TOk d.e.expire) (hdl : (insR s d.e d.now).2.1.length < 1000000) : Calls Try.prog 19 #[.pointer (some ⟨B.p, 0, none⟩), refV gx cx gu cu gt ct s.l.length s.hand, d.v] w fun r w' => ∃ gx cx gu cu gt ct, r = .returned (.tuple #[refV gx cx gu cu gt ct ((insR s d.e d.now).1).l.length ((insR s d.e d.now).1).hand, .bool true]) ∧ DoSt w00 w' B gx cx gu cu gt ct ((insR s d.e d.now).1) ∧ Fr B.wr w w' := by
  have HDL := Hd.mk hdl
  have HEP := Hd.mk he
  have HTE := Hd.mk hte
  clear hdl he hte
  have h := HS.rf
  have HD := Hd.mk HS
  have HK := Hd.mk hk
  have HT := Hd.mk ht
  clear HS hk ht
  have H := Hd.mk h
  clear h
  unfold refV Dd.v
  go_enter Try.func19, Try.ntmps19
  go_upto_region 1 with (fail)
  refine wp_name ?_; intro w0 hw0
  have hf0 : Fr [] w w0 := by rw [hw0]; exact (((Fr.refl [] w).alloc _).alloc _).alloc _
  have hxb0 : Blk w0 (w.heap.size) 51 [.slice (some ⟨gx, 0, none⟩) s.l.length cx, .slice (some ⟨gu, 0, none⟩) s.l.length cu, .slice (some ⟨gt, 0, none⟩) s.l.length ct, .int .i64 s.hand] := by
    rw [hw0]
    have h0 := ((Blk.new (w) 51 [.slice (some ⟨gx, 0, none⟩) s.l.length cx, .slice (some ⟨gu, 0, none⟩) s.l.length cu, .slice (some ⟨gt, 0, none⟩) s.l.length ct, .int .i64 s.hand]).alloc (.cells #[.int .i64 d.kind, .string d.e.q.name, .int .u16 d.e.q.ty, .int .u16 d.e.q.cl, .slice d.e.ra d.e.rn d.e.rc, .int .i64 d.e.rcode, .int .i64 d.e.rank, .int .u64 d.e.expire, .int .u64 d.now] 43)).alloc (.cells #[.slice none 0 0, .slice none 0 0, .slice none 0 0, .int .i64 0] 51)
    exact h0
  have hdb0 : Blk w0 (w.heap.size + 1) 43 [.int .i64 d.kind, .string d.e.q.name, .int .u16 d.e.q.ty, .int .u16 d.e.q.cl, .slice d.e.ra d.e.rn d.e.rc, .int .i64 d.e.rcode, .int .i64 d.e.rank, .int .u64 d.e.expire, .int .u64 d.now] := by
    rw [hw0]
    have h0 := (Blk.new ((w).alloc (.cells #[.slice (some ⟨gx, 0, none⟩) s.l.length cx, .slice (some ⟨gu, 0, none⟩) s.l.length cu, .slice (some ⟨gt, 0, none⟩) s.l.length ct, .int .i64 s.hand] 51)) 43 [.int .i64 d.kind, .string d.e.q.name, .int .u16 d.e.q.ty, .int .u16 d.e.q.cl, .slice d.e.ra d.e.rn d.e.rc, .int .i64 d.e.rcode, .int .i64 d.e.rank, .int .u64 d.e.expire, .int .u64 d.now]).alloc (.cells #[.slice none 0 0, .slice none 0 0, .slice none 0 0, .int .i64 0] 51)
    simp only [World.size_alloc] at h0
    exact h0
  have hrb0 : Blk w0 (w.heap.size + 1 + 1) 51 [.slice none 0 0, .slice none 0 0, .slice none 0 0, .int .i64 0] := by
    rw [hw0]
    have h0 := Blk.new (((w).alloc (.cells #[.slice (some ⟨gx, 0, none⟩) s.l.length cx, .slice (some ⟨gu, 0, none⟩) s.l.length cu, .slice (some ⟨gt, 0, none⟩) s.l.length ct, .int .i64 s.hand] 51)).alloc (.cells #[.int .i64 d.kind, .string d.e.q.name, .int .u16 d.e.q.ty, .int .u16 d.e.q.cl, .slice d.e.ra d.e.rn d.e.rc, .int .i64 d.e.rcode, .int .i64 d.e.rank, .int .u64 d.e.expire, .int .u64 d.now] 43)) 51 [.slice none 0 0, .slice none 0 0, .slice none 0 0, .int .i64 0]
    simp only [World.size_alloc] at h0
    exact h0
  clear hw0
  obtain ⟨xb, h_xb⟩ : ∃ xb, w.heap.size = xb := ⟨_, rfl⟩
  obtain ⟨db, h_db⟩ : ∃ db, xb + 1 = db := ⟨_, rfl⟩
  obtain ⟨rb, h_rb⟩ : ∃ rb, db + 1 = rb := ⟨_, rfl⟩
  simp only [h_xb, h_db, h_rb] at hxb0 hdb0 hrb0 ⊢
  have HWL : Hd (w.heap.size ≤ xb ∧ w.heap.size ≤ db ∧ w.heap.size ≤ rb) := Hd.mk (by omega)
  have HNE : Hd (xb ≠ db ∧ xb ≠ rb ∧ db ≠ rb) := Hd.mk (by omega)
  have HLT : Hd (xb < w0.heap.size ∧ db < w0.heap.size ∧ rb < w0.heap.size) := Hd.mk (by have := hxb0.lt; have := hdb0.lt; have := hrb0.lt; omega)
  have HXB := Hd.mk hxb0
  have HDB := Hd.mk hdb0
  have HRB := Hd.mk hrb0
  have H0 := Hd.mk (H.out.fr hf0)
  have HF0 := Hd.mk hf0
  have hl64 := H.out.len
  have hhd := H.out.hand
  clear hf0 hxb0 h_xb hdb0 h_db hrb0 h_rb
  have HD0 := Hd.mk (HD.out.fr0 HF0.out)
  have HRA := Hd.mk (And.intro (blk_apart HD0.out.sh HDB.out (by decide) (by decide) (by decide)) (And.intro (blk_apart HD0.out.sh HXB.out (by decide) (by decide) (by decide)) (blk_apart HD0.out.sh HRB.out (by decide) (by decide) (by decide))))
  obtain ⟨e0, e1, e2, e3, e4, e5, e6, e7, e8⟩ := HDB.out.cells9
  have hk := HK.out
  rw [hk] at e0
  go_wp2_with fail
  clear e0 e1 e2 e3 e4 e5 e6 e7 e8
  refine (shinsert_calls HD0.out.sh d.e HTE.out HT.out).mono ?_
  rintro r w1 ⟨v1, rfl, hq1, -, h1, hf1⟩
  have HQ1 := Hd.mk hq1
  have HSH1 := Hd.mk h1
  have HRF1 := Hd.mk (ref_step HD0.out.sh HD0.out.rf hf1)
  have HDB1 := Hd.mk (HDB.out.fr hf1 HRA.out.1)
  have HXB1 := Hd.mk (HXB.out.fr hf1 HRA.out.2.1)
  have HRB1 := Hd.mk (HRB.out.fr hf1 HRA.out.2.2)
  have HF1 := Hd.mk (fr_over HD0.out.fr HD0.out.new hf1)
  have HG1 := Hd.mk ((HF0.out.mono (T := B.wr) (by simp)).trans hf1)
  clear h1 hf1 hq1
  obtain ⟨e0, e1, e2, e3, e4, e5, e6, e7, e8⟩ := HDB1.out.cells9
  obtain ⟨b0, b1, b2, b3, bf⟩ := HXB1.out.cells4
  go_wp2_with fail
  refine (rinsert_calls HRF1.out d.e d.now).mono ?_
  rintro r w2 ⟨gx', cx', gu', cu', gt', ct', v2, rfl, h2, hq2, hf2⟩
  have HQ2 := Hd.mk hq2
  have HQ1 := Hd.mk (own_fr HQ1.out hf2 (by simp))
  have H2 := Hd.mk h2
  have HSH2 := Hd.mk (HSH1.out.fr0 hf2)
  have HRB2 := Hd.mk (HRB1.out.fr hf2 (by simp))
  have HF2 := Hd.mk (HF1.out.trans hf2)
  have HG2 := Hd.mk (HG1.out.trans (hf2.mono (by simp)))
  clear h2 hf2 e0 e1 e2 e3 e4 e5 e6 e7 e8 b0 b1 b2 b3 bf hq2
  obtain ⟨en, hen⟩ : ∃ n, (insR s d.e d.now).2.2 = n := ⟨_, rfl⟩
  rw [hen]
  clear hen
  have hnn : decide (en = en) = true := decide_eq_true rfl
  unfold refV
  go_upto_region 5 with (fail)
  refine wp_name ?_; intro w3 hw3
  have hf3 := alloc_of hw3
  have hyb := blk_of (T := 51) (c := [.slice (some ⟨gx', 0, none⟩) ((insR s d.e d.now).1).l.length cx', .slice (some ⟨gu', 0, none⟩) ((insR s d.e d.now).1).l.length cu', .slice (some ⟨gt', 0, none⟩) ((insR s d.e d.now).1).l.length ct', .int .i64 ((insR s d.e d.now).1).hand]) hw3
  clear hw3
  obtain ⟨yb, h_yb⟩ : ∃ yb, w2.heap.size = yb := ⟨_, rfl⟩
  have HYN : Hd (w.heap.size ≤ yb ∧ rb ≠ yb) := Hd.mk ⟨by have := HRB2.out.lt; have := HWL.out; omega, by have := HRB2.out.lt; omega⟩
  rw [h_yb] at hyb ⊢
  have HYB3 := Hd.mk hyb
  have H3 := Hd.mk (H2.out.fr hf3)
  have HSH3 := Hd.mk (HSH2.out.fr0 hf3)
  have HRB3 := Hd.mk (HRB2.out.fr hf3 (by simp))
  have HF3 := Hd.mk (HF2.out.trans hf3)
  have HG3 := Hd.mk (HG2.out.trans (hf3.mono (by simp)))
  have HQ1 := Hd.mk (own_fr HQ1.out hf3 (by simp))
  have HQ2 := Hd.mk (own_fr HQ2.out hf3 (by simp))
  clear hf3 hyb h_yb
  refine wp_region_gs { R := Fr [rb], R1 := Fr [], gs := [Is (.agg #[.slice (some ⟨gx', 0, none⟩) ((insR s d.e d.now).1).l.length cx', .slice (some ⟨gu', 0, none⟩) ((insR s d.e d.now).1).l.length cu', .slice (some ⟨gt', 0, none⟩) ((insR s d.e d.now).1).l.length ct', .int .i64 ((insR s d.e d.now).1).hand]), Is (v1), Is (v2), Is (.bool true), Is (.bool true), Is (.int .i64 en), Is (.int .i64 en), Is (.bool true), Is (.bool true), No, Is (.bool true)], ds := [some 47, some 48, some 49, some 50, some 51, some 52, some 53, some 54, some 55, none, some 7], fl := [false, false, false, false, false, false, false, false, false, true, false], hs := [fun _ w2 => Blk w2 rb 51 [.slice none 0 0, .slice none 0 0, .slice none 0 0, .int .i64 0], fun _ w2 => Blk w2 rb 51 [.slice (some ⟨gx', 0, none⟩) ((insR s d.e d.now).1).l.length cx', .slice (some ⟨gu', 0, none⟩) ((insR s d.e d.now).1).l.length cu', .slice (some ⟨gt', 0, none⟩) ((insR s d.e d.now).1).l.length ct', .int .i64 ((insR s d.e d.now).1).hand]], hd := [[], []] } [false, false, false, false, false, false, false, true, false, false, false, false, false, false, false, false, false, false, false, false, false, false, false, false, false, false, false, false, false, false, false, false, false, false, false, false, false, false, false, false, false, false, false, false, false, false, false, true, true, true, true, true, true, true, true, true, false, false, false, false, false, false, false, false, false, false, false, false, false, false, false, false, false, false, false, false, false, false, false, false, false, false, false, false, false, false, false, false, false, false, false, false, false, false, false, false, false, false, false, false, false, false, false, false, false, false, false, false, false, false, false, false, false, false, false, false, false, false, false, false, false, false] (by kernel_rfl) _ (by kernel_rfl) (by kernel_rfl) (by kernel_rfl) (by kernel_rfl) rfl [] (fun _ _ _ h1 h2 => h1.trans h2) (fun _ _ h => h.mono (by simp)) (staI (staI (staI (staI (staI (staI (staI (staI (staI (staN (staI sta0))))))))))) (sth (fun _ _ _ hf h => h.fr hf (by simp)) (sth (fun _ _ _ hf h => h.fr hf (by simp)) sth0)) (fun _ _ h => h.size) _ (Fr.refl _ _) HRB3.out.drew ?_ ?_
  · refine ⟨?_, ?_, ?_, ?_, ?_, ?_, ?_, ?_, ?_, ?_, ?_, trivial⟩
    · intro σ w' hR hd
      simp only [fill, Nat.reduceAdd, if_true, Bool.false_eq_true, if_false]
      clear hd
      obtain ⟨b0, b1, b2, b3, bf⟩ := (HYB3.out.fr ((Fr.drew (Fr.refl [rb] _)).trans hR) (by simp; exact Ne.symm HYN.out.2)).cells4
      go_wp2
      exact ⟨Fr.refl _ _, rfl⟩
    · intro σ w' hR hd
      simp only [fill, Nat.reduceAdd, if_true, Bool.false_eq_true, if_false]
      clear hd
      go_wp2
      exact ⟨Fr.refl _ _, rfl⟩
    · intro σ w' hR hd
      simp only [fill, Nat.reduceAdd, if_true, Bool.false_eq_true, if_false]
      clear hd
      go_wp2
      exact ⟨Fr.refl _ _, rfl⟩
    · intro σ w' hR hd
      simp only [fill, Nat.reduceAdd, if_true, Bool.false_eq_true, if_false]
      obtain h48 : σ 48 = _ := hd 1 (by decide)
      obtain h49 : σ 49 = _ := hd 2 (by decide)
      rw [h48, h49]
      clear h48 h49
      clear hd
      go_wp2_with fail
      refine (asks_calls (own_fr HQ1.out ((Fr.drew (Fr.refl [rb] _)).trans hR) (by simpa using own_ne HQ1.out HRB3.out (by decide))) (own_fr HQ2.out ((Fr.drew (Fr.refl [rb] _)).trans hR) (by simpa using own_ne HQ2.out HRB3.out (by decide))) HDL.out).mono ?_
      rintro r w4 ⟨rfl, hf4⟩
      have HF4 := Hd.mk hf4
      clear hf4
      go_wp2
      exact ⟨HF4.out, rfl⟩
    · intro σ w' hR hd
      simp only [fill, Nat.reduceAdd, if_true, Bool.false_eq_true, if_false]
      obtain h50 : σ 50 = _ := hd 3 (by decide)
      rw [h50]
      clear h50
      clear hd
      go_wp2
      exact ⟨Fr.refl _ _, rfl⟩
    · intro σ w' hR hd
      simp only [fill, Nat.reduceAdd, if_true, Bool.false_eq_true, if_false]
      obtain h51 : σ 51 = _ := hd 4 (by decide)
      rw [h51]
      clear h51
      clear hd
      go_wp2
      exact ⟨Fr.refl _ _, rfl⟩
    · intro σ w' hR hd
      simp only [fill, Nat.reduceAdd, if_true, Bool.false_eq_true, if_false]
      obtain h51 : σ 51 = _ := hd 4 (by decide)
      rw [h51]
      clear h51
      clear hd
      go_wp2
      exact ⟨Fr.refl _ _, rfl⟩
    · intro σ w' hR hd
      simp only [fill, Nat.reduceAdd, if_true, Bool.false_eq_true, if_false]
      obtain h51 : σ 51 = _ := hd 4 (by decide)
      obtain h52 : σ 52 = _ := hd 5 (by decide)
      obtain h53 : σ 53 = _ := hd 6 (by decide)
      rw [h51, h52, h53]
      clear h51 h52 h53
      clear hd
      go_wp2
      exact ⟨Fr.refl _ _, rfl⟩
    · intro σ w' hR hd
      simp only [fill, Nat.reduceAdd, if_true, Bool.false_eq_true, if_false]
      obtain h51 : σ 51 = _ := hd 4 (by decide)
      obtain h54 : σ 54 = _ := hd 7 (by decide)
      rw [h51, h54]
      clear h51 h54
      clear hd
      go_wp2
      exact ⟨Fr.refl _ _, rfl⟩
    · intro σ w' hR hd hH
      simp only [fill, Nat.reduceAdd, if_true, Bool.false_eq_true, if_false]
      obtain h47 : σ 47 = _ := hd 0 (by decide)
      rw [h47]
      clear h47
      clear hd
      have hb1 : Blk w' rb 51 [.slice none 0 0, .slice none 0 0, .slice none 0 0, .int .i64 0] := hH
      obtain ⟨d0, d1, d2, d3, df⟩ := hb1.cells4
      go_wp2
      obtain ⟨hq4, hf4⟩ := hb1.four rfl
      exact ⟨hf4, trivial, hq4⟩
    · intro σ w' hR hd
      simp only [fill, Nat.reduceAdd, if_true, Bool.false_eq_true, if_false]
      obtain h55 : σ 55 = _ := hd 8 (by decide)
      rw [h55]
      clear h55
      clear hd
      go_wp2
      exact ⟨Fr.refl _ _, rfl⟩
  · intro σ w3 hR hG hH
    obtain h7 : σ 7 = _ := hG 10 (by decide)
    simp only [fill, Nat.reduceAdd, if_true, Bool.false_eq_true, if_false, h7]
    clear h7
    clear hG
    have h5 : Blk w3 rb 51 [.slice (some ⟨gx', 0, none⟩) ((insR s d.e d.now).1).l.length cx', .slice (some ⟨gu', 0, none⟩) ((insR s d.e d.now).1).l.length cu', .slice (some ⟨gt', 0, none⟩) ((insR s d.e d.now).1).l.length ct', .int .i64 ((insR s d.e d.now).1).hand] := hH
    have f5 := ((Fr.drew (Fr.refl [rb] _)).trans hR)
    clear hR hH
    obtain ⟨y0, y1, y2, y3, -⟩ := h5.cells4
    have hra := H3.out.frs f5 (by simpa using own_ne H3.out.x HRB3.out (by decide) _ rfl) (by simpa using own_ne H3.out.u HRB3.out (by decide) _ rfl) (by simpa using own_ne H3.out.t HRB3.out (by decide) _ rfl)
    have HRA5 := Hd.mk hra
    have hz := HD.out.fr.size
    have HSH5 : Hd (ShE w3 B ((insR s d.e d.now).1)) := Hd.mk (HSH3.out.fr f5 (fun k hk => by have := HD.out.sh.lt k hk; have := HWL.out; simp; omega))
    have HG5 := Hd.mk (HG3.out.weak f5 (fun x hx => .inr (by simp only [List.mem_singleton] at hx; subst hx; exact HWL.out.2.2)))
    have HF5 := Hd.mk (HF3.out.weak f5 (by have := HWL.out; simp; omega))
    clear hra f5 hz
    go_wp2_with fail
    exact bodyPost_ret (v := .tuple #[refV gx' cx' gu' cu' gt' ct' ((insR s d.e d.now).1).l.length ((insR s d.e d.now).1).hand, .bool true]) (by simp [results, Try.results19, go_sem, y0, y1, y2, y3, refV]) rfl ⟨gx', cx', gu', cu', gt', ct', rfl, ⟨HSH5.out, HRA5.out, HF5.out, HD.out.new, HD.out.en.ins (RdE.zero _) HD.out.rf.hand HEP.out _⟩, HG5.out⟩
set_option maxRecDepth 100000 in
set_option maxHeartbeats 8000000 in
theorem do_look {w00 w : World} {B : ShB} {gx cx gu cu gt ct : Nat} {s : SS} (HS : DoSt w00 w B gx cx gu cu gt ct s) (d : Dd) (hk : d.kind = 1) (ht : TOk d.now) : Calls Try.prog 19 #[.pointer (some ⟨B.p, 0, none⟩), refV gx cx gu cu gt ct s.l.length s.hand, d.v] w fun r w' => ∃ gx cx gu cu gt ct, r = .returned (.tuple #[refV gx cx gu cu gt ct ((lookR s d.e.q d.now).1).l.length ((lookR s d.e.q d.now).1).hand, .bool true]) ∧ DoSt w00 w' B gx cx gu cu gt ct ((lookR s d.e.q d.now).1) ∧ Fr B.wr w w' := by
  have h := HS.rf
  have HD := Hd.mk HS
  have HK := Hd.mk hk
  have HT := Hd.mk ht
  clear HS hk ht
  have H := Hd.mk h
  clear h
  unfold refV Dd.v
  go_enter Try.func19, Try.ntmps19
  go_upto_region 1 with (fail)
  refine wp_name ?_; intro w0 hw0
  have hf0 : Fr [] w w0 := by rw [hw0]; exact (((Fr.refl [] w).alloc _).alloc _).alloc _
  have hxb0 : Blk w0 (w.heap.size) 51 [.slice (some ⟨gx, 0, none⟩) s.l.length cx, .slice (some ⟨gu, 0, none⟩) s.l.length cu, .slice (some ⟨gt, 0, none⟩) s.l.length ct, .int .i64 s.hand] := by
    rw [hw0]
    have h0 := ((Blk.new (w) 51 [.slice (some ⟨gx, 0, none⟩) s.l.length cx, .slice (some ⟨gu, 0, none⟩) s.l.length cu, .slice (some ⟨gt, 0, none⟩) s.l.length ct, .int .i64 s.hand]).alloc (.cells #[.int .i64 d.kind, .string d.e.q.name, .int .u16 d.e.q.ty, .int .u16 d.e.q.cl, .slice d.e.ra d.e.rn d.e.rc, .int .i64 d.e.rcode, .int .i64 d.e.rank, .int .u64 d.e.expire, .int .u64 d.now] 43)).alloc (.cells #[.slice none 0 0, .slice none 0 0, .slice none 0 0, .int .i64 0] 51)
    exact h0
  have hdb0 : Blk w0 (w.heap.size + 1) 43 [.int .i64 d.kind, .string d.e.q.name, .int .u16 d.e.q.ty, .int .u16 d.e.q.cl, .slice d.e.ra d.e.rn d.e.rc, .int .i64 d.e.rcode, .int .i64 d.e.rank, .int .u64 d.e.expire, .int .u64 d.now] := by
    rw [hw0]
    have h0 := (Blk.new ((w).alloc (.cells #[.slice (some ⟨gx, 0, none⟩) s.l.length cx, .slice (some ⟨gu, 0, none⟩) s.l.length cu, .slice (some ⟨gt, 0, none⟩) s.l.length ct, .int .i64 s.hand] 51)) 43 [.int .i64 d.kind, .string d.e.q.name, .int .u16 d.e.q.ty, .int .u16 d.e.q.cl, .slice d.e.ra d.e.rn d.e.rc, .int .i64 d.e.rcode, .int .i64 d.e.rank, .int .u64 d.e.expire, .int .u64 d.now]).alloc (.cells #[.slice none 0 0, .slice none 0 0, .slice none 0 0, .int .i64 0] 51)
    simp only [World.size_alloc] at h0
    exact h0
  have hrb0 : Blk w0 (w.heap.size + 1 + 1) 51 [.slice none 0 0, .slice none 0 0, .slice none 0 0, .int .i64 0] := by
    rw [hw0]
    have h0 := Blk.new (((w).alloc (.cells #[.slice (some ⟨gx, 0, none⟩) s.l.length cx, .slice (some ⟨gu, 0, none⟩) s.l.length cu, .slice (some ⟨gt, 0, none⟩) s.l.length ct, .int .i64 s.hand] 51)).alloc (.cells #[.int .i64 d.kind, .string d.e.q.name, .int .u16 d.e.q.ty, .int .u16 d.e.q.cl, .slice d.e.ra d.e.rn d.e.rc, .int .i64 d.e.rcode, .int .i64 d.e.rank, .int .u64 d.e.expire, .int .u64 d.now] 43)) 51 [.slice none 0 0, .slice none 0 0, .slice none 0 0, .int .i64 0]
    simp only [World.size_alloc] at h0
    exact h0
  clear hw0
  obtain ⟨xb, h_xb⟩ : ∃ xb, w.heap.size = xb := ⟨_, rfl⟩
  obtain ⟨db, h_db⟩ : ∃ db, xb + 1 = db := ⟨_, rfl⟩
  obtain ⟨rb, h_rb⟩ : ∃ rb, db + 1 = rb := ⟨_, rfl⟩
  simp only [h_xb, h_db, h_rb] at hxb0 hdb0 hrb0 ⊢
  have HWL : Hd (w.heap.size ≤ xb ∧ w.heap.size ≤ db ∧ w.heap.size ≤ rb) := Hd.mk (by omega)
  have HNE : Hd (xb ≠ db ∧ xb ≠ rb ∧ db ≠ rb) := Hd.mk (by omega)
  have HLT : Hd (xb < w0.heap.size ∧ db < w0.heap.size ∧ rb < w0.heap.size) := Hd.mk (by have := hxb0.lt; have := hdb0.lt; have := hrb0.lt; omega)
  have HXB := Hd.mk hxb0
  have HDB := Hd.mk hdb0
  have HRB := Hd.mk hrb0
  have H0 := Hd.mk (H.out.fr hf0)
  have HF0 := Hd.mk hf0
  have hl64 := H.out.len
  have hhd := H.out.hand
  clear hf0 hxb0 h_xb hdb0 h_db hrb0 h_rb
  have HD0 := Hd.mk (HD.out.fr0 HF0.out)
  have HRA := Hd.mk (And.intro (blk_apart HD0.out.sh HDB.out (by decide) (by decide) (by decide)) (And.intro (blk_apart HD0.out.sh HXB.out (by decide) (by decide) (by decide)) (blk_apart HD0.out.sh HRB.out (by decide) (by decide) (by decide))))
  obtain ⟨e0, e1, e2, e3, e4, e5, e6, e7, e8⟩ := HDB.out.cells9
  have hk := HK.out
  rw [hk] at e0
  go_wp2_with fail
  clear e0 e1 e2 e3 e4 e5 e6 e7 e8
  refine (lookup_calls HD0.out.sh d.e.q d.now).mono ?_
  rintro r w1 ⟨rfl, h1, hf1⟩
  have HSH1 := Hd.mk h1
  have HRF1 := Hd.mk (ref_step HD0.out.sh HD0.out.rf hf1)
  have HDB1 := Hd.mk (HDB.out.fr hf1 HRA.out.1)
  have HXB1 := Hd.mk (HXB.out.fr hf1 HRA.out.2.1)
  have HRB1 := Hd.mk (HRB.out.fr hf1 HRA.out.2.2)
  have HF1 := Hd.mk (fr_over HD0.out.fr HD0.out.new hf1)
  have HG1 := Hd.mk ((HF0.out.mono (T := B.wr) (by simp)).trans hf1)
  clear h1 hf1
  have HLE0 := Hd.mk (HD.out.en.look (RdE.zero _) d.e.q d.now).2
  obtain ⟨le, hle⟩ : ∃ n, (lookR s d.e.q d.now).2.1 = n := ⟨_, rfl⟩
  obtain ⟨lb, hlb⟩ : ∃ n, (lookR s d.e.q d.now).2.2 = n := ⟨_, rfl⟩
  rw [hle] at HLE0 ⊢
  rw [hlb]
  have HLQ := Hd.mk (And.intro hle hlb)
  clear hle hlb
  unfold En.v
  go_upto_region 8 with (fail)
  refine wp_name ?_; intro w1' hw1
  have hf1 := alloc_of hw1
  have hab := blk_of (T := 29) (c := [.string le.q.name, .int .u16 le.q.ty, .int .u16 le.q.cl, .slice le.ra le.rn le.rc, .int .i64 le.rcode, .int .i64 le.rank, .int .u64 le.expire]) hw1
  clear hw1
  obtain ⟨ab, h_ab⟩ : ∃ ab, w1.heap.size = ab := ⟨_, rfl⟩
  have HAN : Hd (w.heap.size ≤ ab ∧ rb ≠ ab) := Hd.mk ⟨by have := HRB1.out.lt; have := HWL.out; omega, by have := HRB1.out.lt; omega⟩
  rw [h_ab] at hab ⊢
  have HAB1 := Hd.mk hab
  have HSH1 := Hd.mk (HSH1.out.fr0 hf1)
  have HRF1 := Hd.mk (HRF1.out.fr hf1)
  have HDB1 := Hd.mk (HDB1.out.fr hf1 (by simp))
  have HXB1 := Hd.mk (HXB1.out.fr hf1 (by simp))
  have HRB1 := Hd.mk (HRB1.out.fr hf1 (by simp))
  have HF1 := Hd.mk (HF1.out.trans hf1)
  have HG1 := Hd.mk (HG1.out.trans (hf1.mono (by simp)))
  clear hf1 hab h_ab
  obtain ⟨e0, e1, e2, e3, e4, e5, e6, e7, e8⟩ := HDB1.out.cells9
  obtain ⟨b0, b1, b2, b3, bf⟩ := HXB1.out.cells4
  go_wp2_with fail
  refine (rlookup_calls HRF1.out d.e.q d.now).mono ?_
  rintro r w2 ⟨gx', cx', gu', cu', gt', ct', rfl, h2, hf2⟩
  have HAB2 := Hd.mk (HAB1.out.fr hf2 (by simp))
  have HLL : Hd ((lookR s d.e.q d.now).1.l.length = s.l.length ∧ (lookR s d.e.q d.now).1.hand = s.hand) := Hd.mk (look_len s d.e.q d.now)
  have H2 := Hd.mk h2
  have HSH2 := Hd.mk (HSH1.out.fr0 hf2)
  have HRB2 := Hd.mk (HRB1.out.fr hf2 (by simp))
  have HF2 := Hd.mk (HF1.out.trans hf2)
  have HG2 := Hd.mk (HG1.out.trans (hf2.mono (by simp)))
  clear h2 hf2 e0 e1 e2 e3 e4 e5 e6 e7 e8 b0 b1 b2 b3 bf
  rw [HLQ.out.1, HLQ.out.2]
  unfold refV En.v
  go_upto_region 9 with (fail)
  refine wp_name ?_; intro w3 hw3
  have hf3 := alloc2_of hw3
  have hyb : Blk w3 w2.heap.size 51 [.slice (some ⟨gx', 0, none⟩) s.l.length cx', .slice (some ⟨gu', 0, none⟩) s.l.length cu', .slice (some ⟨gt', 0, none⟩) s.l.length ct', .int .i64 s.hand] := alloc2_fst hw3
  have hzb : Blk w3 (w2.heap.size + 1) 29 [.string le.q.name, .int .u16 le.q.ty, .int .u16 le.q.cl, .slice le.ra le.rn le.rc, .int .i64 le.rcode, .int .i64 le.rank, .int .u64 le.expire] := alloc2_snd hw3
  clear hw3
  obtain ⟨yb, h_yb⟩ : ∃ yb, w2.heap.size = yb := ⟨_, rfl⟩
  have HYN : Hd (w.heap.size ≤ yb ∧ rb ≠ yb) := Hd.mk ⟨by have := HRB2.out.lt; have := HWL.out; omega, by have := HRB2.out.lt; omega⟩
  have HYN2 : Hd (rb ≠ yb + 1) := Hd.mk (by have := HRB2.out.lt; omega)
  rw [h_yb] at hyb hzb
  simp only [h_yb]
  obtain ⟨zb, h_zb⟩ : ∃ zb, yb + 1 = zb := ⟨_, rfl⟩
  rw [h_zb] at hzb HYN2 ⊢
  have HYB3 := Hd.mk hyb
  have HZB3 := Hd.mk hzb
  have H3 := Hd.mk (H2.out.fr hf3)
  have HSH3 := Hd.mk (HSH2.out.fr0 hf3)
  have HRB3 := Hd.mk (HRB2.out.fr hf3 (by simp))
  have HAB3 := Hd.mk (HAB2.out.fr hf3 (by simp))
  have HF3 := Hd.mk (HF2.out.trans hf3)
  have HG3 := Hd.mk (HG2.out.trans (hf3.mono (by simp)))
  clear hf3 hyb hzb h_yb h_zb
  refine wp_region_gs { R := Fr [rb], R1 := Fr [], gs := [Is (.agg #[.slice (some ⟨gx', 0, none⟩) s.l.length cx', .slice (some ⟨gu', 0, none⟩) s.l.length cu', .slice (some ⟨gt', 0, none⟩) s.l.length ct', .int .i64 s.hand]), Is (.agg #[.string le.q.name, .int .u16 le.q.ty, .int .u16 le.q.cl, .slice le.ra le.rn le.rc, .int .i64 le.rcode, .int .i64 le.rank, .int .u64 le.expire]), Is (.agg #[.string le.q.name, .int .u16 le.q.ty, .int .u16 le.q.cl, .slice le.ra le.rn le.rc, .int .i64 le.rcode, .int .i64 le.rank, .int .u64 le.expire]), Is (.bool true), Is (.bool true), Is (.bool lb), Is (.bool lb), Is (.bool true), Is (.bool true), No, Is (.bool true)], ds := [some 79, some 80, some 81, some 82, some 83, some 84, some 85, some 86, some 87, none, some 7], fl := [false, false, false, false, false, false, false, false, false, true, false], hs := [fun _ w2 => Blk w2 rb 51 [.slice none 0 0, .slice none 0 0, .slice none 0 0, .int .i64 0], fun _ w2 => Blk w2 rb 51 [.slice (some ⟨gx', 0, none⟩) s.l.length cx', .slice (some ⟨gu', 0, none⟩) s.l.length cu', .slice (some ⟨gt', 0, none⟩) s.l.length ct', .int .i64 s.hand]], hd := [[], []] } [false, false, false, false, false, false, false, true, false, false, false, false, false, false, false, false, false, false, false, false, false, false, false, false, false, false, false, false, false, false, false, false, false, false, false, false, false, false, false, false, false, false, false, false, false, false, false, false, false, false, false, false, false, false, false, false, false, false, false, false, false, false, false, false, false, false, false, false, false, false, false, false, false, false, false, false, false, false, false, true, true, true, true, true, true, true, true, true, false, false, false, false, false, false, false, false, false, false, false, false, false, false, false, false, false, false, false, false, false, false, false, false, false, false, false, false, false, false, false, false, false, false] (by kernel_rfl) _ (by kernel_rfl) (by kernel_rfl) (by kernel_rfl) (by kernel_rfl) rfl [] (fun _ _ _ h1 h2 => h1.trans h2) (fun _ _ h => h.mono (by simp)) (staI (staI (staI (staI (staI (staI (staI (staI (staI (staN (staI sta0))))))))))) (sth (fun _ _ _ hf h => h.fr hf (by simp)) (sth (fun _ _ _ hf h => h.fr hf (by simp)) sth0)) (fun _ _ h => h.size) _ (Fr.refl _ _) HRB3.out.drew ?_ ?_
  · refine ⟨?_, ?_, ?_, ?_, ?_, ?_, ?_, ?_, ?_, ?_, ?_, trivial⟩
    · intro σ w' hR hd
      simp only [fill, Nat.reduceAdd, if_true, Bool.false_eq_true, if_false]
      clear hd
      obtain ⟨b0, b1, b2, b3, bf⟩ := (HYB3.out.fr ((Fr.drew (Fr.refl [rb] _)).trans hR) (by simp; exact Ne.symm HYN.out.2)).cells4
      go_wp2
      exact ⟨Fr.refl _ _, rfl⟩
    · intro σ w' hR hd
      simp only [fill, Nat.reduceAdd, if_true, Bool.false_eq_true, if_false]
      clear hd
      obtain ⟨r0, r1, r2, r3, r4, r5, r6, rf⟩ := (HAB3.out.fr ((Fr.drew (Fr.refl [rb] _)).trans hR) (by simp; exact Ne.symm HAN.out.2)).cells7
      go_wp2
      exact ⟨Fr.refl _ _, rfl⟩
    · intro σ w' hR hd
      simp only [fill, Nat.reduceAdd, if_true, Bool.false_eq_true, if_false]
      clear hd
      obtain ⟨r0, r1, r2, r3, r4, r5, r6, rf⟩ := (HZB3.out.fr ((Fr.drew (Fr.refl [rb] _)).trans hR) (by simp; exact Ne.symm HYN2.out)).cells7
      go_wp2
      exact ⟨Fr.refl _ _, rfl⟩
    · intro σ w' hR hd
      simp only [fill, Nat.reduceAdd, if_true, Bool.false_eq_true, if_false]
      obtain h80 : σ 80 = _ := hd 1 (by decide)
      obtain h81 : σ 81 = _ := hd 2 (by decide)
      rw [h80, h81]
      clear h80 h81
      clear hd
      go_wp2_with fail
      refine (same_calls (HLE0.out.fr (HF3.out.weak ((Fr.drew (Fr.refl [rb] _)).trans hR) (by have := HWL.out; have := HD.out.fr.size; simp; omega)))).mono ?_
      rintro r w4 ⟨rfl, hf4⟩
      have HF4 := Hd.mk hf4
      clear hf4
      go_wp2
      exact ⟨HF4.out, rfl⟩
    · intro σ w' hR hd
      simp only [fill, Nat.reduceAdd, if_true, Bool.false_eq_true, if_false]
      obtain h82 : σ 82 = _ := hd 3 (by decide)
      rw [h82]
      clear h82
      clear hd
      go_wp2
      exact ⟨Fr.refl _ _, rfl⟩
    · intro σ w' hR hd
      simp only [fill, Nat.reduceAdd, if_true, Bool.false_eq_true, if_false]
      obtain h83 : σ 83 = _ := hd 4 (by decide)
      rw [h83]
      clear h83
      clear hd
      go_wp2
      exact ⟨Fr.refl _ _, rfl⟩
    · intro σ w' hR hd
      simp only [fill, Nat.reduceAdd, if_true, Bool.false_eq_true, if_false]
      obtain h83 : σ 83 = _ := hd 4 (by decide)
      rw [h83]
      clear h83
      clear hd
      go_wp2
      exact ⟨Fr.refl _ _, rfl⟩
    · intro σ w' hR hd
      simp only [fill, Nat.reduceAdd, if_true, Bool.false_eq_true, if_false]
      obtain h83 : σ 83 = _ := hd 4 (by decide)
      obtain h84 : σ 84 = _ := hd 5 (by decide)
      obtain h85 : σ 85 = _ := hd 6 (by decide)
      rw [h83, h84, h85]
      clear h83 h84 h85
      clear hd
      have hbb : (lb == lb) = true := by simp
      go_wp2
      exact ⟨Fr.refl _ _, rfl⟩
    · intro σ w' hR hd
      simp only [fill, Nat.reduceAdd, if_true, Bool.false_eq_true, if_false]
      obtain h83 : σ 83 = _ := hd 4 (by decide)
      obtain h86 : σ 86 = _ := hd 7 (by decide)
      rw [h83, h86]
      clear h83 h86
      clear hd
      go_wp2
      exact ⟨Fr.refl _ _, rfl⟩
    · intro σ w' hR hd hH
      simp only [fill, Nat.reduceAdd, if_true, Bool.false_eq_true, if_false]
      obtain h79 : σ 79 = _ := hd 0 (by decide)
      rw [h79]
      clear h79
      clear hd
      have hb1 : Blk w' rb 51 [.slice none 0 0, .slice none 0 0, .slice none 0 0, .int .i64 0] := hH
      obtain ⟨d0, d1, d2, d3, df⟩ := hb1.cells4
      go_wp2
      obtain ⟨hq4, hf4⟩ := hb1.four rfl
      exact ⟨hf4, trivial, hq4⟩
    · intro σ w' hR hd
      simp only [fill, Nat.reduceAdd, if_true, Bool.false_eq_true, if_false]
      obtain h87 : σ 87 = _ := hd 8 (by decide)
      rw [h87]
      clear h87
      clear hd
      go_wp2
      exact ⟨Fr.refl _ _, rfl⟩
  · intro σ w3 hR hG hH
    obtain h7 : σ 7 = _ := hG 10 (by decide)
    simp only [fill, Nat.reduceAdd, if_true, Bool.false_eq_true, if_false, h7]
    clear h7
    clear hG
    have h5 : Blk w3 rb 51 [.slice (some ⟨gx', 0, none⟩) s.l.length cx', .slice (some ⟨gu', 0, none⟩) s.l.length cu', .slice (some ⟨gt', 0, none⟩) s.l.length ct', .int .i64 s.hand] := hH
    have f5 := ((Fr.drew (Fr.refl [rb] _)).trans hR)
    clear hR hH
    obtain ⟨y0, y1, y2, y3, -⟩ := h5.cells4
    have hra := H3.out.frs f5 (by simpa using own_ne H3.out.x HRB3.out (by decide) _ rfl) (by simpa using own_ne H3.out.u HRB3.out (by decide) _ rfl) (by simpa using own_ne H3.out.t HRB3.out (by decide) _ rfl)
    have HRA5 := Hd.mk hra
    have hz := HD.out.fr.size
    have HSH5 : Hd (ShE w3 B ((lookR s d.e.q d.now).1)) := Hd.mk (HSH3.out.fr f5 (fun k hk => by have := HD.out.sh.lt k hk; have := HWL.out; simp; omega))
    have HG5 := Hd.mk (HG3.out.weak f5 (fun x hx => .inr (by simp only [List.mem_singleton] at hx; subst hx; exact HWL.out.2.2)))
    have HF5 := Hd.mk (HF3.out.weak f5 (by have := HWL.out; simp; omega))
    clear hra f5 hz
    go_wp2_with fail
    exact bodyPost_ret (v := .tuple #[refV gx' cx' gu' cu' gt' ct' s.l.length s.hand, .bool true]) (by simp [results, Try.results19, go_sem, y0, y1, y2, y3, refV]) rfl ⟨gx', cx', gu', cu', gt', ct', by rw [HLL.out.1, HLL.out.2]; exact rfl, ⟨HSH5.out, HRA5.out, HF5.out, HD.out.new, (HD.out.en.look (RdE.zero _) _ _).1⟩, HG5.out⟩
end Go.Proofs.Ytjfhdffmlnkooaa
namespace Go.Proofs.Ytjfhdffmlnkooaa
open Go Go.RowKit Go.Proofs.MapL PPM Go.Proofs.YtjfhdffmlnkooaaW.PrintWords

theorem dueQ_len (s : SS) (now : Int) : (dueQ s now).length ≤ s.l.length := by
  unfold dueQ; rw [List.length_map]; exact dueK_len s now
theorem goneQ_len (s : SS) (now : Int) : (goneQ s now).length ≤ s.l.length ∨ (goneQ s now).length ≤ 1 := by
  unfold goneQ
  split
  · exact .inl (Nat.zero_le _)
  · split
    · exact .inl (dueQ_len s now)
    · exact .inr (Nat.le_refl _)
theorem insQ_len (s : SS) (e : En) (now : Int) : (insR s e now).2.1.length ≤ s.l.length ∨ (insR s e now).2.1.length ≤ 1 := by
  unfold insR
  split
  · split
    · split
      · split
        · exact .inl (Nat.zero_le _)
        · exact .inl (Nat.zero_le _)
      · exact .inl (Nat.zero_le _)
    · exact goneQ_len s now
  · exact .inl (Nat.zero_le _)
theorem ins_len (s : SS) (e : En) (now : Int) : (insR s e now).1.l.length = s.l.length := by
  unfold insR
  split
  · split
    · split
      · split
        · exact at_len _ _ _
        · rfl
      · rfl
    · rw [at_len]; exact roomS_len s now
  · rfl
theorem evict_len (s : SS) (q : Qn) : (evictS s q).l.length = s.l.length := by
  unfold evictS
  split
  · exact at_len _ _ _
  · rfl
theorem deed_len (s : SS) (d : Dd) : (doS s d).l.length = s.l.length := by
  unfold doS
  split
  · exact ins_len _ _ _
  · split
    · exact (look_len _ _ _).1
    · split
      · exact evict_len _ _
      · unfold dueS; exact clr_len _ _
theorem do_any {w00 w : World} {B : ShB} {gx cx gu cu gt ct : Nat} {s : SS} (HS : DoSt w00 w B gx cx gu cu gt ct s) (d : Dd) (hd : RdE w00 d.e) (ht : TOk d.now) : Calls Try.prog 19 #[.pointer (some ⟨B.p, 0, none⟩), refV gx cx gu cu gt ct s.l.length s.hand, d.v] w fun r w' => ∃ gx cx gu cu gt ct, r = .returned (.tuple #[refV gx cx gu cu gt ct (doS s d).l.length (doS s d).hand, .bool true]) ∧ DoSt w00 w' B gx cx gu cu gt ct (doS s d) ∧ Fr B.wr w w' := by
  have hl := HS.rf.len
  unfold doS
  by_cases h0 : d.kind = 0
  · rw [if_pos h0]
    exact do_insert HS d h0 ht hd hd.t (by have := insQ_len s d.e d.now; omega)
  · rw [if_neg h0]
    by_cases h1 : d.kind = 1
    · rw [if_pos h1]; exact do_look HS d h1 ht
    · rw [if_neg h1]
      by_cases h2 : d.kind = 2
      · rw [if_pos h2]; exact do_evict HS d h2
      · rw [if_neg h2]; exact do_due HS d ⟨h0, h1, h2⟩ ht (by have := dueQ_len s d.now; omega)
end Go.Proofs.Ytjfhdffmlnkooaa
namespace Go.Proofs.Ytjfhdffmlnkooaa
open Go Go.RowKit Go.Proofs.MapL PPM Go.Proofs.YtjfhdffmlnkooaaW.PrintWords

theorem RefAt.frT {w w' : World} {N : Nat} {S : List Nat} {gx cx gu cu gt ct : Nat} {s : SS} (h : RefAt w gx cx gu cu gt ct s) (hf : FrT N S 51 w w') (hn : NotIn gx gu gt S) : RefAt w' gx cx gu cu gt ct s :=
  ⟨own_frT h.x hf (by simpa [Value.ownBlock] using hn.a) (by decide), own_frT h.u hf (by simpa [Value.ownBlock] using hn.b) (by decide), own_frT h.t hf (by simpa [Value.ownBlock] using hn.c) (by decide), h.hand, h.len⟩
theorem RefAt.fr1 {w w' : World} {b : Nat} {cs : List Value} {gx cx gu cu gt ct : Nat} {s : SS} (h : RefAt w gx cx gu cu gt ct s) (hf : Fr [b] w w') (hb : Blk w b 51 cs) : RefAt w' gx cx gu cu gt ct s :=
  h.frs hf (by simpa using own_ne h.x hb (by decide) _ rfl) (by simpa using own_ne h.u hb (by decide) _ rfl) (by simpa using own_ne h.t hb (by decide) _ rfl)
/-- Over a write of a box that isn't the shard's. -/
theorem DoSt.fr1 {w0 w w' : World} {b : Nat} {cs : List Value} {B : ShB} {gx cx gu cu gt ct : Nat} {s : SS} (h : DoSt w0 w B gx cx gu cu gt ct s) (hf : Fr [b] w w') (hb : Blk w b 51 cs) (hn : w0.heap.size ≤ b ∧ b ∉ B.all) : DoSt w0 w' B gx cx gu cu gt ct s :=
  ⟨h.sh.fr hf (fun k hk => by simp; rintro rfl; exact hn.2 hk), h.rf.fr1 hf hb, h.fr.weak hf (by simp; exact hn.1), h.new, h.en⟩
theorem EnAll.new (n : Nat) {P : En → Prop} (hz : P zeroEn) : EnAll P (newS n) := by
  intro j a h
  have := List.mem_of_getElem? h
  rw [List.eq_of_mem_replicate this]; exact hz
/-- A shard behind deeds. -/
def RanX (w : World) (n : Nat) (r : Ending) (w' : World) : Prop := ∃ (B : ShB) (s : SS), r = .returned (.pointer (some ⟨B.p, 0, none⟩)) ∧ ShE w' B s ∧ s.l.length = n ∧ s.hand < n ∧ EnAll (RdE w) s ∧ Fr [] w w' ∧ (∀ x ∈ B.all, w.heap.size ≤ x)
set_option maxRecDepth 100000 in
set_option maxHeartbeats 8000000 in
theorem ran_calls {w : World} {v : Value} {ds : List Dd} (hD : DeedsAt w v ds) : Calls Try.prog 10 #[v] w (RanX w 4) := by
  obtain ⟨hle, hrr, A0, cd, rfl, hat⟩ := hD
  have HAT := Hd.mk hat
  have HRR := Hd.mk hrr
  clear hat hrr
  go_enter Try.func10, Try.ntmps10
  go_wp2_with fail
  refine (shnew_calls 4 8 (by omega) (by omega) (by omega) (by omega) _).mono ?_
  rintro r w1 ⟨B, rfl, hs1, hf1, hge⟩
  have HS1 := Hd.mk hs1
  have HGE := Hd.mk hge
  have HF1 := Hd.mk hf1
  clear hs1 hge hf1
  go_wp2_with fail
  refine (rnew_calls 4 (by omega) (by omega) _).mono ?_
  rintro r w2 ⟨gx, cx, gu, cu, gt, ct, rfl, hra, hf2⟩
  have HS2 := Hd.mk (HS1.out.fr0 hf2)
  have HF2 := Hd.mk (HF1.out.trans hf2)
  have HR2 := Hd.mk hra
  clear hra hf2
  unfold refV
  go_upto_region 3 with (fail)
  refine wp_name ?_; intro w3 hw3
  have hf3 := alloc_of hw3
  have hxb := blk_of (T := 51) (c := [.slice (some ⟨gx, 0, none⟩) 4 cx, .slice (some ⟨gu, 0, none⟩) 4 cu, .slice (some ⟨gt, 0, none⟩) 4 ct, .int .i64 0]) hw3
  clear hw3
  have hxn : w.heap.size ≤ w2.heap.size ∧ ∀ k ∈ B.all, k < w2.heap.size := ⟨HF2.out.size, HS2.out.lt⟩
  obtain ⟨xb, h_xb⟩ : ∃ xb, w2.heap.size = xb := ⟨_, rfl⟩
  rw [h_xb] at hxb hxn ⊢
  have HDS0 : Hd (DoSt w w3 B gx cx gu cu gt ct (newS 4)) := Hd.mk ⟨HS2.out.fr0 hf3, HR2.out.fr hf3, HF2.out.trans hf3, HGE.out, EnAll.new 4 (RdE.zero _)⟩
  have HXB0 := Hd.mk hxb
  have HXN0 := Hd.mk hxn
  clear hf3 hxb hxn h_xb
  go_wp2_with fail
  go_loopw [5, 6, 7] (fun i v6 v7 wr => ∃ (k : Nat) (s : SS) (gx cx gu cu gt ct : Nat), k ≤ ds.length ∧ k ≤ 200 ∧ i = .int .i64 k ∧ DoSt w wr B gx cx gu cu gt ct s ∧ Blk wr xb 51 [.slice (some ⟨gx, 0, none⟩) s.l.length cx, .slice (some ⟨gu, 0, none⟩) s.l.length cu, .slice (some ⟨gt, 0, none⟩) s.l.length ct, .int .i64 s.hand] ∧ s.l.length = 4) (fun i _ _ _ => 200 - (intOf i).toNat)
  case atStart => exact ⟨0, newS 4, gx, cx, gu, cu, gt, ct, Nat.zero_le _, by omega, rfl, HDS0.out, HXB0.out, rfl⟩
  case round =>
    obtain ⟨k, s, gx, cx, gu, cu, gt, ct, hk, hk2, rfl, hds, hxb, hs4⟩ := hrel
    have HDS := Hd.mk hds
    have HXB := Hd.mk hxb
    have HS4 := Hd.mk hs4
    clear hds hxb hs4 HDS0 HXB0
    have HXN : Hd (w.heap.size ≤ xb ∧ xb ∉ B.all) := Hd.mk ⟨HXN0.out.1, fun h => Nat.lt_irrefl _ (HXN0.out.2 _ h)⟩
    by_cases hlt : k < ds.length
    · by_cases hlt2 : k < 200
      · obtain ⟨gd, off, rfl, hgl, hcc⟩ := HAT.out (by omega)
        obtain ⟨d, hd⟩ : ∃ d, ds[k] = d := ⟨_, rfl⟩
        have hcd := hcc k hlt
        have hde := HRR.out (ds[k]) (List.getElem_mem hlt)
        rw [hd] at hcd hde
        have HDE := Hd.mk hde
        have HDC : Hd (∀ j u, d.c[j]? = some u → wr.cell? ⟨gd, off + k * 9 + j, none⟩ = some u) := Hd.mk fun j u hu => HDS.out.fr.cell (hcd j u hu) (by simp)
        have HDW : Hd (gd ∉ B.wr ∧ gd < wr.heap.size) := Hd.mk ⟨fun h => by have := HDS.out.new gd (B.wr_all gd h); omega, by have := HDS.out.fr.size; omega⟩
        have HXW : Hd (xb ∉ B.wr ∧ xb < wr.heap.size) := Hd.mk ⟨fun h => HXN.out.2 (B.wr_all _ h), HXB.out.lt⟩
        have HBL : Hd (∀ k ∈ B.all, k < wr.heap.size) := Hd.mk HDS.out.sh.lt
        have HNW : Hd (∀ yb, wr.heap.size ≤ yb → yb ∉ B.wr) := Hd.mk fun yb hy h => by have := HBL.out yb (B.wr_all yb h); omega
        have HKL := Hd.mk hlt
        clear hd hcd hde hcc
        go_wp2_with fail
        refine wp_region_gs { R := FrT wr.heap.size B.wr 51, R1 := Fr [], gs := [Is (.pointer (some ⟨B.p, 0, none⟩)), Is (.agg #[.slice (some ⟨gx, 0, none⟩) s.l.length cx, .slice (some ⟨gu, 0, none⟩) s.l.length cu, .slice (some ⟨gt, 0, none⟩) s.l.length ct, .int .i64 s.hand]), Is (.slice (some ⟨gd, off, none⟩) ds.length cd), Is (.int .i64 k), Is (.pointer (some ⟨gd, off + k * 9, none⟩)), Is (.agg #[.int .i64 d.kind, .string d.e.q.name, .int .u16 d.e.q.ty, .int .u16 d.e.q.cl, .slice d.e.ra d.e.rn d.e.rc, .int .i64 d.e.rcode, .int .i64 d.e.rank, .int .u64 d.e.expire, .int .u64 d.now]), (fun (v : Value) (w2 : World) => ∃ gx' cx' gu' cu' gt' ct', v = .tuple #[refV gx' cx' gu' cu' gt' ct' (doS s d).l.length (doS s d).hand, .bool true] ∧ RefAt w2 gx' cx' gu' cu' gt' ct' (doS s d) ∧ NotIn gx' gu' gt' B.wr), (fun (v : Value) (w2 : World) => ∃ gx' cx' gu' cu' gt' ct', v = .tuple #[refV gx' cx' gu' cu' gt' ct' (doS s d).l.length (doS s d).hand, .bool true] ∧ RefAt w2 gx' cx' gu' cu' gt' ct' (doS s d) ∧ NotIn gx' gu' gt' B.wr), (fun (v : Value) (w2 : World) => ∃ gx' cx' gu' cu' gt' ct', v = refV gx' cx' gu' cu' gt' ct' (doS s d).l.length (doS s d).hand ∧ RefAt w2 gx' cx' gu' cu' gt' ct' (doS s d) ∧ NotIn gx' gu' gt' B.wr), Is (.bool true), (fun (v : Value) (w2 : World) => ∃ yb, v = .pointer (some ⟨yb, 0, none⟩) ∧ wr.heap.size ≤ yb ∧ BlkN w2 yb 51 4), No, Is (.bool true)], ds := [some 21, some 22, some 23, some 24, some 25, some 26, some 27, some 20, some 28, some 29, some 6, none, some 7], fl := [false, false, false, false, false, false, true, false, false, false, false, true, false], hs := [fun _ w2 => DoSt w w2 B gx cx gu cu gt ct s, fun _ w2 => ShE w2 B (doS s d), fun l w2 => ShE w2 B (doS s d) ∧ ∃ yb, wr.heap.size ≤ yb ∧ l = [.pointer (some ⟨yb, 0, none⟩)] ∧ ∃ gx' cx' gu' cu' gt' ct', Blk w2 yb 51 [.slice (some ⟨gx', 0, none⟩) (doS s d).l.length cx', .slice (some ⟨gu', 0, none⟩) (doS s d).l.length cu', .slice (some ⟨gt', 0, none⟩) (doS s d).l.length ct', .int .i64 (doS s d).hand] ∧ RefAt w2 gx' cx' gu' cu' gt' ct' (doS s d) ∧ NotIn gx' gu' gt' B.wr], hd := [[], [], [6]] } [false, false, false, false, false, false, true, true, false, false, false, false, false, false, false, false, false, false, false, false, true, true, true, true, true, true, true, true, true, true, false, false] (by kernel_rfl) _ (by kernel_rfl) (by kernel_rfl) (by kernel_rfl) (by kernel_rfl) rfl [] (fun _ _ _ h1 h2 => h1.trans h2) (fun _ _ h => FrT.of (h.mono (by simp))) (staI (staI (staI (staI (staI (staI (sta (fun v _ _ hf ⟨gx', cx', gu', cu', gt', ct', h1, h2, h3⟩ => ⟨gx', cx', gu', cu', gt', ct', h1, h2.frT hf h3, h3⟩) (sta (fun v _ _ hf ⟨gx', cx', gu', cu', gt', ct', h1, h2, h3⟩ => ⟨gx', cx', gu', cu', gt', ct', h1, h2.frT hf h3, h3⟩) (sta (fun v _ _ hf ⟨gx', cx', gu', cu', gt', ct', h1, h2, h3⟩ => ⟨gx', cx', gu', cu', gt', ct', h1, h2.frT hf h3, h3⟩) (staI (sta (fun v _ _ hf ⟨yb, h1, h2, h3⟩ => ⟨yb, h1, h2, h3.frT hf (HNW.out yb h2)⟩) (staN (staI sta0))))))))))))) (sth (fun _ _ _ hf h => h.fr0 hf) (sth (fun _ _ _ hf h => h.fr0 hf) (sth (fun _ _ _ hf ⟨h0, yb, hn, hl, gx', cx', gu', cu', gt', ct', h1, h2, h3⟩ => ⟨h0.fr0 hf, yb, hn, hl, gx', cx', gu', cu', gt', ct', h1.fr hf (by simp), h2.fr hf, h3⟩) sth0))) (fun _ _ h => h.size) _ (FrT.of (Fr.refl _ _)) (HDS.out.fr0 (Fr.drew (Fr.refl [] _))) ?_ ?_
        · refine ⟨?_, ?_, ?_, ?_, ?_, ?_, ?_, ?_, ?_, ?_, ?_, ?_, ?_, trivial⟩
          · intro σ w' hR hd
            simp only [fill, Nat.reduceAdd, if_true, Bool.false_eq_true, if_false]
            clear hd
            go_wp2
            exact ⟨Fr.refl _ _, rfl⟩
          · intro σ w' hR hd
            simp only [fill, Nat.reduceAdd, if_true, Bool.false_eq_true, if_false]
            clear hd
            have HFT := FrT.trans (FrT.of (Fr.drew (Fr.refl _ _))) hR
            obtain ⟨b0, b1, b2, b3, bf⟩ := (HXB.out.frT HFT HXW.out.1 (.inl HXW.out.2)).cells4
            go_wp2
            exact ⟨Fr.refl _ _, rfl⟩
          · intro σ w' hR hd
            simp only [fill, Nat.reduceAdd, if_true, Bool.false_eq_true, if_false]
            clear hd
            go_wp2
            exact ⟨Fr.refl _ _, rfl⟩
          · intro σ w' hR hd
            simp only [fill, Nat.reduceAdd, if_true, Bool.false_eq_true, if_false]
            clear hd
            go_wp2
            exact ⟨Fr.refl _ _, rfl⟩
          · intro σ w' hR hd
            simp only [fill, Nat.reduceAdd, if_true, Bool.false_eq_true, if_false]
            obtain h23 : σ 23 = _ := hd 2 (by decide)
            obtain h24 : σ 24 = _ := hd 3 (by decide)
            rw [h23, h24]
            clear h23 h24
            clear hd
            have hkl := HKL.out
            go_wp2
            exact ⟨Fr.refl _ _, rfl⟩
          · intro σ w' hR hd
            simp only [fill, Nat.reduceAdd, if_true, Bool.false_eq_true, if_false]
            obtain h25 : σ 25 = _ := hd 4 (by decide)
            rw [h25]
            clear h25
            clear hd
            have HFT := FrT.trans (FrT.of (Fr.drew (Fr.refl _ _))) hR
            have c0 : w'.cell? ⟨gd, off + k * 9, none⟩ = some (.int .i64 d.kind) := HFT.cell (HDC.out 0 _ rfl) HDW.out.1 HDW.out.2
            have c1 : w'.cell? ⟨gd, off + k * 9 + 1, none⟩ = some (.string d.e.q.name) := HFT.cell (HDC.out 1 _ rfl) HDW.out.1 HDW.out.2
            have c2 : w'.cell? ⟨gd, off + k * 9 + 2, none⟩ = some (.int .u16 d.e.q.ty) := HFT.cell (HDC.out 2 _ rfl) HDW.out.1 HDW.out.2
            have c3 : w'.cell? ⟨gd, off + k * 9 + 3, none⟩ = some (.int .u16 d.e.q.cl) := HFT.cell (HDC.out 3 _ rfl) HDW.out.1 HDW.out.2
            have c4 : w'.cell? ⟨gd, off + k * 9 + 4, none⟩ = some (.slice d.e.ra d.e.rn d.e.rc) := HFT.cell (HDC.out 4 _ rfl) HDW.out.1 HDW.out.2
            have c5 : w'.cell? ⟨gd, off + k * 9 + 5, none⟩ = some (.int .i64 d.e.rcode) := HFT.cell (HDC.out 5 _ rfl) HDW.out.1 HDW.out.2
            have c6 : w'.cell? ⟨gd, off + k * 9 + 6, none⟩ = some (.int .i64 d.e.rank) := HFT.cell (HDC.out 6 _ rfl) HDW.out.1 HDW.out.2
            have c7 : w'.cell? ⟨gd, off + k * 9 + 7, none⟩ = some (.int .u64 d.e.expire) := HFT.cell (HDC.out 7 _ rfl) HDW.out.1 HDW.out.2
            have c8 : w'.cell? ⟨gd, off + k * 9 + 8, none⟩ = some (.int .u64 d.now) := HFT.cell (HDC.out 8 _ rfl) HDW.out.1 HDW.out.2
            go_wp2
            exact ⟨Fr.refl _ _, rfl⟩
          · intro σ w' hR hd hH
            simp only [fill, Nat.reduceAdd, if_true, Bool.false_eq_true, if_false]
            obtain h21 : σ 21 = _ := hd 0 (by decide)
            obtain h22 : σ 22 = _ := hd 1 (by decide)
            obtain h26 : σ 26 = _ := hd 5 (by decide)
            rw [h21, h22, h26]
            clear h21 h22 h26
            clear hd
            have HDS : Hd (DoSt w w' B gx cx gu cu gt ct s) := Hd.mk hH
            have hdo := do_any HDS.out d HDE.out.1 HDE.out.2
            unfold Dd.v refV at hdo
            have HDO := Hd.mk hdo
            clear hdo hH
            go_wp2_with fail
            refine HDO.out.mono ?_
            rintro r w4 ⟨gx', cx', gu', cu', gt', ct', rfl, h4, hw4⟩
            have HD4 := Hd.mk h4
            have HW4 := Hd.mk hw4
            have HN4 := Hd.mk (ref_apart h4.sh h4.rf)
            clear h4 hw4
            go_wp2
            exact ⟨FrT.of HW4.out, ⟨gx', cx', gu', cu', gt', ct', rfl, HD4.out.rf, ⟨HN4.out.1, HN4.out.2.1, HN4.out.2.2⟩⟩, HD4.out.sh⟩
          · intro σ w' hR hd
            simp only [fill, Nat.reduceAdd, if_true, Bool.false_eq_true, if_false]
            obtain ⟨gx', cx', gu', cu', gt', ct', h27, h2', h3'⟩ : (fun (v : Value) (w2 : World) => ∃ gx' cx' gu' cu' gt' ct', v = .tuple #[refV gx' cx' gu' cu' gt' ct' (doS s d).l.length (doS s d).hand, .bool true] ∧ RefAt w2 gx' cx' gu' cu' gt' ct' (doS s d) ∧ NotIn gx' gu' gt' B.wr) (σ 27) w' := hd 6 (by decide)
            clear hd
            go_wp2
            exact ⟨Fr.refl _ _, gx', cx', gu', cu', gt', ct', rfl, h2', h3'⟩
          · intro σ w' hR hd
            simp only [fill, Nat.reduceAdd, if_true, Bool.false_eq_true, if_false]
            obtain ⟨gx', cx', gu', cu', gt', ct', h20, h2', h3'⟩ : (fun (v : Value) (w2 : World) => ∃ gx' cx' gu' cu' gt' ct', v = .tuple #[refV gx' cx' gu' cu' gt' ct' (doS s d).l.length (doS s d).hand, .bool true] ∧ RefAt w2 gx' cx' gu' cu' gt' ct' (doS s d) ∧ NotIn gx' gu' gt' B.wr) (σ 20) w' := hd 7 (by decide)
            rw [h20]
            clear h20
            clear hd
            go_wp2
            exact ⟨Fr.refl _ _, gx', cx', gu', cu', gt', ct', rfl, h2', h3'⟩
          · intro σ w' hR hd
            simp only [fill, Nat.reduceAdd, if_true, Bool.false_eq_true, if_false]
            obtain ⟨gx', cx', gu', cu', gt', ct', h20, h2', h3'⟩ : (fun (v : Value) (w2 : World) => ∃ gx' cx' gu' cu' gt' ct', v = .tuple #[refV gx' cx' gu' cu' gt' ct' (doS s d).l.length (doS s d).hand, .bool true] ∧ RefAt w2 gx' cx' gu' cu' gt' ct' (doS s d) ∧ NotIn gx' gu' gt' B.wr) (σ 20) w' := hd 7 (by decide)
            rw [h20]
            clear h20
            clear hd
            go_wp2
            exact ⟨Fr.refl _ _, rfl⟩
          · intro σ w' hR hd
            simp only [fill, Nat.reduceAdd, if_true, Bool.false_eq_true, if_false]
            clear hd
            go_wp2
            exact ⟨(Fr.refl [] _).alloc _, _, rfl, (show wr.drew.heap.size ≤ _ from hR.size), [.slice none 0 0, .slice none 0 0, .slice none 0 0, .int .i64 0], rfl, Blk.new _ _ _⟩
          · intro σ w' hR hd hH
            simp only [fill, Nat.reduceAdd, if_true, Bool.false_eq_true, if_false]
            obtain ⟨yb, h6, hyn, hyb⟩ : (fun (v : Value) (w2 : World) => ∃ yb, v = .pointer (some ⟨yb, 0, none⟩) ∧ wr.heap.size ≤ yb ∧ BlkN w2 yb 51 4) (σ 6) w' := hd 10 (by decide)
            obtain ⟨gx', cx', gu', cu', gt', ct', h28, h2', h3'⟩ : (fun (v : Value) (w2 : World) => ∃ gx' cx' gu' cu' gt' ct', v = refV gx' cx' gu' cu' gt' ct' (doS s d).l.length (doS s d).hand ∧ RefAt w2 gx' cx' gu' cu' gt' ct' (doS s d) ∧ NotIn gx' gu' gt' B.wr) (σ 28) w' := hd 8 (by decide)
            rw [h6, h28]
            clear h6 h28
            clear hd
            have hsh : ShE w' B (doS s d) := hH
            clear hH
            obtain ⟨cs, hcl, hyb⟩ := hyb
            match cs, hcl, hyb with
            | [e0, e1, e2, e3], _, hyb =>
            obtain ⟨d0, d1, d2, d3, df⟩ := hyb.cells4
            have HSH := Hd.mk hsh
            have HH2 := Hd.mk h2'
            have HH3 := h3'
            clear hsh h2' h3' hR
            unfold refV
            go_wp2
            obtain ⟨hq4, hf4⟩ := hyb.four rfl
            exact ⟨FrT.set hf4 hyn hyb hq4 rfl, trivial, HSH.out.fr hf4 (fun k hk => by have := HBL.out k hk; simp; omega), yb, hyn, rfl, gx', cx', gu', cu', gt', ct', hq4, HH2.out.fr1 hf4 hyb, HH3⟩
          · intro σ w' hR hd
            simp only [fill, Nat.reduceAdd, if_true, Bool.false_eq_true, if_false]
            obtain h29 : σ 29 = _ := hd 9 (by decide)
            rw [h29]
            clear h29
            clear hd
            go_wp2
            exact ⟨Fr.refl _ _, rfl⟩
        · intro σ w3 hR hG hH
          obtain h7 : σ 7 = _ := hG 12 (by decide)
          simp only [fill, Nat.reduceAdd, if_true, Bool.false_eq_true, if_false, h7]
          clear h7
          clear hG
          obtain ⟨hsh, yb, hyn, hyl, gx', cx', gu', cu', gt', ct', hyb, hrf, hni⟩ : ShE w3 B (doS s d) ∧ ∃ yb, wr.heap.size ≤ yb ∧ [σ 6] = [.pointer (some ⟨yb, 0, none⟩)] ∧ ∃ gx' cx' gu' cu' gt' ct', Blk w3 yb 51 [.slice (some ⟨gx', 0, none⟩) (doS s d).l.length cx', .slice (some ⟨gu', 0, none⟩) (doS s d).l.length cu', .slice (some ⟨gt', 0, none⟩) (doS s d).l.length ct', .int .i64 (doS s d).hand] ∧ RefAt w3 gx' cx' gu' cu' gt' ct' (doS s d) ∧ NotIn gx' gu' gt' B.wr := hH
          obtain hy : σ 6 = .pointer (some ⟨yb, 0, none⟩) := by simpa using hyl
          rw [hy]
          clear hyl hy
          have hfw : Fr B.wr wr w3 := (Fr.drew (Fr.refl _ _)).trans (FrT.fr hR (Nat.le_refl _))
          have HD3 : Hd (DoSt w w3 B gx' cx' gu' cu' gt' ct' (doS s d)) := Hd.mk ⟨hsh, hrf, fr_over HDS.out.fr HDS.out.new hfw, HDS.out.new, HDS.out.en.deed (RdE.zero _) HDS.out.rf.hand HDE.out.1⟩
          have HXB3 := Hd.mk (HXB.out.fr hfw HXW.out.1)
          have HYB3 := Hd.mk hyb
          have HXY : Hd (xb ≠ yb) := Hd.mk (by have := HXW.out.2; omega)
          clear hsh hyb hrf hni hfw hR
          obtain ⟨y0, y1, y2, y3, yf⟩ := HYB3.out.cells4
          obtain ⟨b0, b1, b2, b3, bf⟩ := HXB3.out.cells4
          go_upto_region 5 with (fail)
          refine wp_name ?_; intro w5 hw5
          obtain ⟨hx5, f5⟩ := Blk.four HXB3.out hw5
          clear y0 y1 y2 y3 yf b0 b1 b2 b3 bf hw5
          have HXB5 := Hd.mk hx5
          have HD5 := Hd.mk (HD3.out.fr1 f5 HXB3.out HXN.out)
          clear hx5 f5
          go_wp2
          go_roundw
          case rel => exact ⟨k + 1, doS s d, gx', cx', gu', cu', gt', ct', by omega, by omega, by go_num, HD5.out, HXB5.out, (deed_len s d).trans HS4.out⟩
          case measure => simp [intOf]; omega
      · go_wp2
        go_ret
        exact ⟨B, s, rfl, HDS.out.sh, HS4.out, HS4.out ▸ HDS.out.rf.hand, HDS.out.en, HDS.out.fr, HDS.out.new⟩
    · go_wp2
      go_ret
      exact ⟨B, s, rfl, HDS.out.sh, HS4.out, HS4.out ▸ HDS.out.rf.hand, HDS.out.en, HDS.out.fr, HDS.out.new⟩
end Go.Proofs.Ytjfhdffmlnkooaa
