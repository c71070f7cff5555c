import Derived.Test.YtbmejolmbfmdiaaH11
namespace Go.Proofs.Ytbmejolmbfmdiaa
open Go Go.RowKit Go.Lib Go.Proofs.MapL

/-- An event is as it should be, of a part in state s. -/
def rightB (ρ : En → List Rr) (s : Ps) (room : Int) (x : Ev) : Bool := if x.kind = 1 then insOkB ρ s room x else if x.kind = 2 then lookOkB ρ s x else if x.kind = 3 then evOkB ρ s x else if x.kind = 4 then advOkB ρ s x else false
def rightS (ρ : En → List Rr) (s : Ps) (room : Int) (x : Ev) : Ps := if x.kind = 1 then insS ρ s room x else if x.kind = 2 then s else if x.kind = 3 then evS ρ s x else if x.kind = 4 then advS ρ s x else s
set_option maxRecDepth 100000 in
set_option maxHeartbeats 8000000 in
theorem right_calls {w0 w : World} (h0 : Fr [] w0 w) {P : Pt} (hP : ∀ k ∈ P.all, w0.heap.size ≤ k) {s : Ps} (h : PtAt w P s) (hL : s.L.length < 1000000) (hE : s.E.length < 1000000) (hR : ∀ e ∈ s.L, RecOK w0 e) {x : Ev} (hx : EvOK w0 x) : Calls Try.prog 13 #[.pointer (some ⟨P.pp, 0, none⟩), x.v] w fun r w' => r = .returned (.bool (rightB (rho w0) s P.room x)) ∧ PtAt w' P (rightS (rho w0) s P.room x) ∧ Fr P.wr w w' := by
  have HX := Hd.mk hx
  have HPA := Hd.mk hP
  have H := Hd.mk h
  have H0 := Hd.mk h0
  have HE := Hd.mk hE
  have HL := Hd.mk hL
  have HRC := Hd.mk hR
  clear h hx h0 hE hL hP hR
  obtain ⟨cv, hcv⟩ : ∃ c, (evC x).toArray = c := ⟨_, rfl⟩
  have HCV := Hd.mk hcv
  have HXV : Hd (Value.agg cv = x.v) := Hd.mk (by rw [← hcv]; rfl)
  clear hcv
  unfold Ev.v
  go_enter Try.func13, Try.ntmps13
  go_upto_region 1 with (fail)
  refine wp_name ?_; intro w1 hw1
  have hf1 := alloc_of hw1
  have hb1 := blk_of (T := 38) (c := evC x) hw1
  clear hw1
  obtain ⟨bx, hbx⟩ : ∃ p, w.heap.size = p := ⟨_, rfl⟩
  rw [hbx] at hb1 ⊢
  rw [show Value.agg #[.int .i64 x.kind, .string x.de.q.name, .int .u16 x.de.q.ty, .int .u16 x.de.q.cl, .slice x.de.ra x.de.rn x.de.rc, .int .i64 x.de.rcode, .int .i64 x.de.rank, .int .u64 x.de.expire, .int .u64 x.now, .int .i64 x.sh, .string x.told.q.name, .int .u16 x.told.q.ty, .int .u16 x.told.q.cl, .slice x.told.ra x.told.rn x.told.rc, .int .i64 x.told.rcode, .int .i64 x.told.rank, .int .u64 x.told.expire, .bool x.is, .int .i64 x.err, .slice x.ga x.gn x.gc] = x.v from rfl]
  have HF1 := Hd.mk hf1
  have HPT1 := Hd.mk (H.out.fr0 hf1)
  have HBX1 := Hd.mk hb1
  have c0 : w1.cell? ⟨bx, 0, none⟩ = some (.int .i64 x.kind) := hb1.cell (i := 0) rfl
  clear hf1 hb1 hbx
  by_cases hk : x.kind = 1
  · have HGO : Hd (rightB (rho w0) s P.room x = insOkB (rho w0) s P.room x ∧ rightS (rho w0) s P.room x = insS (rho w0) s P.room x) := Hd.mk ⟨by unfold rightB; simp [hk], by unfold rightS; simp [hk]⟩
    rw [hk] at c0
    clear hk
    go_wp2_with (refine wpList_load rfl rfl (Try.isAgg38 _) (Try.sizeOf38 _) (blk_load HBX1.out (n := 20) rfl HCV.out) rfl ?_)
    rw [HXV.out]
    refine (hins_calls (H0.out.trans HF1.out) HPA.out HPT1.out HL.out HE.out HX.out).mono ?_
    rintro r w3 ⟨rfl, hp3, hf3⟩
    have HP3 := Hd.mk hp3
    have HF3 := Hd.mk ((HF1.out.mono (T := P.wr) (by simp)).trans hf3)
    clear hp3 hf3
    go_wp2
    go_ret
    exact ⟨by rw [HGO.out.1]; rfl, by rw [HGO.out.2]; exact HP3.out, HF3.out⟩
  · have hn1 := hk
    clear hk
    by_cases hk : x.kind = 2
    · have HGO : Hd (rightB (rho w0) s P.room x = lookOkB (rho w0) s x ∧ rightS (rho w0) s P.room x = s) := Hd.mk ⟨by unfold rightB; simp [hk], by unfold rightS; simp [hk]⟩
      rw [hk] at c0
      clear hk
      go_wp2_with (refine wpList_load rfl rfl (Try.isAgg38 _) (Try.sizeOf38 _) (blk_load HBX1.out (n := 20) rfl HCV.out) rfl ?_)
      rw [HXV.out]
      refine (hlook_calls (H0.out.trans HF1.out) HPT1.out HRC.out HX.out).mono ?_
      rintro r w3 ⟨rfl, hf3⟩
      have HP3 := Hd.mk (HPT1.out.fr0 hf3)
      have HF3 := Hd.mk (HF1.out.trans hf3)
      clear hf3
      go_wp2
      go_ret
      exact ⟨by rw [HGO.out.1]; rfl, by rw [HGO.out.2]; exact HP3.out, HF3.out.mono (by simp)⟩
    · have hn2 := hk
      clear hk
      by_cases hk : x.kind = 3
      · have HGO : Hd (rightB (rho w0) s P.room x = evOkB (rho w0) s x ∧ rightS (rho w0) s P.room x = evS (rho w0) s x) := Hd.mk ⟨by unfold rightB; simp [hk], by unfold rightS; simp [hk]⟩
        rw [hk] at c0
        clear hk
        go_wp2_with (refine wpList_load rfl rfl (Try.isAgg38 _) (Try.sizeOf38 _) (blk_load HBX1.out (n := 20) rfl HCV.out) rfl ?_)
        rw [HXV.out]
        refine (hevict_calls (H0.out.trans HF1.out) HPT1.out HX.out).mono ?_
        rintro r w3 ⟨rfl, hp3, hf3⟩
        have HP3 := Hd.mk hp3
        have HF3 := Hd.mk ((HF1.out.mono (T := P.wr) (by simp)).trans hf3)
        clear hp3 hf3
        go_wp2
        go_ret
        exact ⟨by rw [HGO.out.1]; rfl, by rw [HGO.out.2]; exact HP3.out, HF3.out⟩
      · have hn3 := hk
        clear hk
        by_cases hk : x.kind = 4
        · have HGO : Hd (rightB (rho w0) s P.room x = advOkB (rho w0) s x ∧ rightS (rho w0) s P.room x = advS (rho w0) s x) := Hd.mk ⟨by unfold rightB; simp [hk], by unfold rightS; simp [hk]⟩
          rw [hk] at c0
          clear hk
          go_wp2_with (refine wpList_load rfl rfl (Try.isAgg38 _) (Try.sizeOf38 _) (blk_load HBX1.out (n := 20) rfl HCV.out) rfl ?_)
          rw [HXV.out]
          refine (hadv_calls (H0.out.trans HF1.out) HPA.out HPT1.out HE.out HX.out).mono ?_
          rintro r w3 ⟨rfl, hp3, hf3⟩
          have HP3 := Hd.mk hp3
          have HF3 := Hd.mk ((HF1.out.mono (T := P.wr) (by simp)).trans hf3)
          clear hp3 hf3
          go_wp2
          go_ret
          exact ⟨by rw [HGO.out.1]; rfl, by rw [HGO.out.2]; exact HP3.out, HF3.out⟩
        · have hn4 := hk
          clear hk
          have HGO : Hd (rightB (rho w0) s P.room x = false ∧ rightS (rho w0) s P.room x = s) := Hd.mk ⟨by unfold rightB; simp [hn1, hn2, hn3, hn4], by unfold rightS; simp [hn1, hn2, hn3, hn4]⟩
          go_wp2
          go_ret
          exact ⟨by rw [HGO.out.1]; rfl, by rw [HGO.out.2]; exact HPT1.out, HF1.out.mono (by simp)⟩
end Go.Proofs.Ytbmejolmbfmdiaa
