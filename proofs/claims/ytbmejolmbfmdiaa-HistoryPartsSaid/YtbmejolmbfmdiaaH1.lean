import Derived.Test.YtbmejolmbfmdiaaM4
namespace Go.Proofs.Ytbmejolmbfmdiaa
open Go Go.RowKit Go.Proofs.MapL

set_option maxRecDepth 100000 in
/-- What reads as a question's key is a question. -/
theorem q_inv {key : Value} {kl : Lit} (h : keyOf Try.prog 28 key = some kl) : ∃ q : Qn, key = q.v ∧ kl = q.lit := by
  have h0 := h
  unfold keyOf at h
  rw [Try.underlying28] at h
  dsimp only at h
  split at h
  case isFalse => exact (Option.some_ne_none _ h.symm).elim
  case isTrue hf =>
    rw [Bool.and_eq_true] at hf
    obtain ⟨m, hm⟩ : ∃ m, Try.prog.types.size = m + 1 := ⟨Try.prog.types.size - 1, by
      have : 0 < Try.prog.types.size := of_decide_eq_true (by kernel_rfl)
      omega⟩
    have hq : Try.prog.cellsOf 28 = 3 := by kernel_rfl
    have h9 : Try.prog.cellsOf 9 = 1 := by kernel_rfl
    have h23 : Try.prog.cellsOf 26 = 1 := by kernel_rfl
    rw [hm] at h
    have hform := hf.2
    cases key with
    | agg cs =>
      have hsz : cs.size = 3 := by
        have h2 := hform
        unfold Value.formed at h2
        rw [Try.underlying28, hq] at h2
        simpa using h2
      obtain ⟨cs⟩ := cs
      match cs, hsz with
      | [a, b, c], _ =>
      have hs : ∀ v ls, Try.prog.keyLits (m + 1) 9 [v] = some ls → ∃ s : ByteArray, v = .string s ∧ s.size ≤ maxLen := by
        intro v ls hv
        unfold Program.keyLits at hv
        rw [Try.underlying9] at hv
        cases v <;> simp only [reduceCtorEq] at hv
        rename_i s
        split at hv
        · rename_i h2; exact ⟨s, rfl, h2⟩
        · exact (Option.some_ne_none _ hv.symm).elim
      have hi : ∀ v ls, Try.prog.keyLits (m + 1) 26 [v] = some ls → ∃ n : Int, v = .int .u16 n ∧ 0 ≤ n ∧ n < 65536 := by
        intro v ls hv
        unfold Program.keyLits at hv
        rw [Try.underlying26] at hv
        cases v <;> simp only [reduceCtorEq] at hv
        rename_i k n
        split at hv
        · rename_i h2
          obtain ⟨rfl, hw⟩ := h2
          refine ⟨n, rfl, ?_⟩
          simp [Lit.wf, IntKind.min, IntKind.max, IntKind.signed, IntKind.bits] at hw
          omega
        · exact (Option.some_ne_none _ hv.symm).elim
      have hh : ∃ s n1 n2, a = .string s ∧ s.size ≤ maxLen ∧ b = .int .u16 n1 ∧ (0 ≤ n1 ∧ n1 < 65536) ∧ c = .int .u16 n2 ∧ (0 ≤ n2 ∧ n2 < 65536) := by
        have hc : (Value.agg (#[a, b, c])).cells.toList = [a, b, c] := rfl
        rw [Option.map_eq_some_iff] at h
        obtain ⟨ls, hls, -⟩ := h
        rw [hc] at hls
        unfold Program.keyLits at hls
        rw [Try.underlying28] at hls
        dsimp only at hls
        split at hls
        case isFalse => exact (Option.some_ne_none _ hls.symm).elim
        case isTrue =>
          simp only [List.mapM_cons, List.mapM_nil, h9, h23, List.drop_zero, List.drop_succ_cons, List.take_succ_cons, List.take_zero] at hls
          cases e1 : Try.prog.keyLits (m + 1) 9 [a] with
          | none => rw [e1] at hls; exact (Option.some_ne_none _ hls.symm).elim
          | some l1 =>
            cases e2 : Try.prog.keyLits (m + 1) 26 [b] with
            | none => rw [e1, e2] at hls; exact (Option.some_ne_none _ hls.symm).elim
            | some l2 =>
              cases e3 : Try.prog.keyLits (m + 1) 26 [c] with
              | none => rw [e1, e2, e3] at hls; exact (Option.some_ne_none _ hls.symm).elim
              | some l3 =>
                obtain ⟨s, r1, r2⟩ := hs _ _ e1
                obtain ⟨n1, r3, r4⟩ := hi _ _ e2
                obtain ⟨n2, r5, r6⟩ := hi _ _ e3
                exact ⟨s, n1, n2, r1, r2, r3, r4, r5, r6⟩
      obtain ⟨s, n1, n2, rfl, r2, rfl, r4, rfl, r6⟩ := hh
      let q : Qn := ⟨s, n1, n2, r2, r4, r6⟩
      have hk := key_q q
      have e : (Value.agg ⟨[.string s, .int .u16 n1, .int .u16 n2]⟩) = q.v := rfl
      refine ⟨q, e, ?_⟩
      rw [e, hk] at h0
      exact (Option.some.inj h0).symm
    | _ =>
      exfalso
      unfold Value.formed at hform
      first
        | (rw [Try.underlying28] at hform; simp at hform)
        | simp at hform
theorem alloc_of {w w' : World} {T : Nat} {c : Array Value} (h : w' = w.alloc (.cells c T)) : Fr [] w w' := by rw [h]; exact (Fr.refl [] w).alloc _
theorem blk_of {w w' : World} {T : Nat} {c : List Value} (h : w' = w.alloc (.cells c.toArray T)) : Blk w' w.heap.size T c := by rw [h]; exact Blk.new _ _ _
def vU (t : Int) : Value := .int .u64 t
/-- A part's blocks. -/
structure Pt where
  pp : Nat
  pm : Nat
  bm : Nat
  be : Nat
  room : Int
def Pt.all (P : Pt) : List Nat := [P.pp, P.pm, P.bm, P.be]
def Pt.wr (P : Pt) : List Nat := [P.bm, P.be]
/-- What a part has: its model's entries, the ends. -/
structure Ps where
  L : List En
  E : List (Qn × Int)
structure PtAt (w : World) (P : Pt) (s : Ps) : Prop where
  blk : Blk w P.pp 57 [.pointer (some ⟨P.pm, 0, none⟩), .map (some P.be)]
  m : MAt w P.pm P.bm P.room s.L
  e : mapIs Qn.lit vU Try.prog 28 w P.be s.E
  ne : P.bm ≠ P.be
  pe : P.pm ≠ P.pp
section
variable {w w' : World} {P : Pt} {s : Ps} {S : List Nat}
theorem PtAt.fr (h : PtAt w P s) (hf : Fr S w w') (hS : ∀ k ∈ P.all, k ∉ S) : PtAt w' P s :=
  ⟨h.blk.fr hf (hS _ (by simp [Pt.all])), h.m.fr hf (hS _ (by simp [Pt.all])) (hS _ (by simp [Pt.all])), map_fr h.e hf (hS _ (by simp [Pt.all])), h.ne, h.pe⟩
theorem PtAt.fr0 (h : PtAt w P s) (hf : Fr [] w w') : PtAt w' P s := h.fr hf (by simp)
theorem PtAt.lt (h : PtAt w P s) : ∀ k ∈ P.all, k < w.heap.size := by
  intro k hk
  simp only [Pt.all, List.mem_cons, List.not_mem_nil, or_false] at hk
  rcases hk with rfl | rfl | rfl | rfl
  · exact h.blk.lt
  · exact h.m.plt
  · exact h.m.blt
  · exact h.e.lt
theorem PtAt.nes (h : PtAt w P s) : P.bm ≠ P.pp ∧ P.bm ≠ P.pm ∧ P.be ≠ P.pp ∧ P.be ≠ P.pm := ⟨map_ne h.m.map h.blk, h.m.ne, map_ne h.e h.blk, map_ne h.e h.m.blk⟩
theorem PtAt.putE (h : PtAt w P s) {E : List (Qn × Int)} (hf : Fr [P.be] w w') (he : mapIs Qn.lit vU Try.prog 28 w' P.be E) : PtAt w' P ⟨s.L, E⟩ := by
  obtain ⟨h1, h2, h3, h4⟩ := h.nes
  exact ⟨h.blk.fr hf (by simpa using Ne.symm h3), h.m.fr hf (by simpa using Ne.symm h4) (by simpa using h.ne), he, h.ne, h.pe⟩
theorem PtAt.putL (h : PtAt w P s) {L : List En} (hf : Fr [P.bm] w w') (hm : MAt w' P.pm P.bm P.room L) : PtAt w' P ⟨L, s.E⟩ := by
  obtain ⟨h1, h2, h3, h4⟩ := h.nes
  exact ⟨h.blk.fr hf (by simpa using Ne.symm h1), hm, map_fr h.e hf (by simpa using Ne.symm h.ne), h.ne, h.pe⟩
end
set_option maxRecDepth 100000 in
set_option maxHeartbeats 8000000 in
theorem put_calls {w : World} {P : Pt} {s : Ps} (h : PtAt w P s) (hL : s.E.length < maxLen) (e : En) : Calls Try.prog 26 #[.pointer (some ⟨P.pp, 0, none⟩), e.v] w fun r w' => r = .returned (.tuple #[]) ∧ PtAt w' P ⟨s.L, putL s.E e.q e.expire⟩ ∧ Fr [P.be] w w' := by
  have HLN := Hd.mk hL
  have H := Hd.mk h
  clear h hL
  unfold En.v
  go_enter Try.func26, Try.ntmps26
  go_wp2_with fail
  refine wp_name ?_; intro w0 hw0
  have hf0 := alloc_of hw0
  have hb0 := blk_of (T := 32) (c := [.string e.q.name, .int .u16 e.q.ty, .int .u16 e.q.cl, .slice e.ra e.rn e.rc, .int .i64 e.rcode, .int .i64 e.rank, .int .u64 e.expire]) hw0
  clear hw0
  obtain ⟨be, h_be⟩ : ∃ p, w.heap.size = p := ⟨_, rfl⟩
  rw [h_be] at hb0 ⊢
  have HF0 := Hd.mk hf0
  have H0 := Hd.mk (H.out.fr0 hf0)
  have HPB : Hd (Blk w0.drew P.pp 57 [.pointer (some ⟨P.pm, 0, none⟩), .map (some P.be)]) := Hd.mk H0.out.blk.drew
  have HBX : Hd (Blk w0.drew be 32 [.string e.q.name, .int .u16 e.q.ty, .int .u16 e.q.cl, .slice e.ra e.rn e.rc, .int .i64 e.rcode, .int .i64 e.rank, .int .u64 e.expire]) := Hd.mk hb0.drew
  have HNE : Hd (P.pp ≠ P.be ∧ be ≠ P.be) := Hd.mk ⟨Ne.symm H.out.nes.2.2.1, by have := H.out.e.lt; omega⟩
  have HME : Hd (mapIs Qn.lit vU Try.prog 28 w0.drew P.be s.E) := Hd.mk (mapIs_block H0.out.e rfl)
  clear hf0 hb0 h_be
  refine wp_region_gs { R := Fr [P.be], R1 := Fr [], gs := [Is (.pointer (some ⟨P.pp, 0, none⟩)), Is (.pointer (some ⟨P.pp, 0, none⟩)), Is (.pointer (some ⟨P.pp, 1, none⟩)), Is (.map (some P.be)), Is (.pointer (some ⟨be, 0, none⟩)), Is (.agg #[.string e.q.name, .int .u16 e.q.ty, .int .u16 e.q.cl]), Is (.pointer (some ⟨be, 6, none⟩)), Is (.int .u64 e.expire), No], ds := [some 4, some 5, some 6, some 7, some 8, some 9, some 10, some 11, none], fl := [false, false, false, false, false, false, false, false, true], hs := [fun _ w2 => mapIs Qn.lit vU Try.prog 28 w2 P.be s.E, fun _ w2 => mapIs Qn.lit vU Try.prog 28 w2 P.be (putL s.E e.q e.expire)], hd := [[], []] } [false, false, false, false, true, true, true, true, true, true, true, true] (by kernel_rfl) _ (by kernel_rfl) (by kernel_rfl) (by kernel_rfl) (by kernel_rfl) rfl [] (fun _ _ _ h1 h2 => h1.trans h2) (fun _ _ h => h.mono (by simp)) (staI (staI (staI (staI (staI (staI (staI (staI (staN sta0))))))))) (sth (fun _ _ _ hf h => map_fr h hf (by simp)) (sth (fun _ _ _ hf h => map_fr h hf (by simp)) sth0)) (fun _ _ h => h.size) _ (Fr.refl _ _) HME.out ?_ ?_
  · refine ⟨?_, ?_, ?_, ?_, ?_, ?_, ?_, ?_, ?_, trivial⟩
    · intro σ w' hR hd
      simp only [fill, Nat.reduceAdd, if_true, Bool.false_eq_true, if_false]
      clear hd
      go_wp2
      exact ⟨Fr.refl _ _, rfl⟩
    · intro σ w' hR hd
      simp only [fill, Nat.reduceAdd, if_true, Bool.false_eq_true, if_false]
      obtain h4 : σ 4 = _ := hd 0 (by decide)
      rw [h4]
      clear h4
      clear hd
      go_wp2
      exact ⟨Fr.refl _ _, rfl⟩
    · intro σ w' hR hd
      simp only [fill, Nat.reduceAdd, if_true, Bool.false_eq_true, if_false]
      obtain h5 : σ 5 = _ := hd 1 (by decide)
      rw [h5]
      clear h5
      clear hd
      go_wp2
      exact ⟨Fr.refl _ _, rfl⟩
    · intro σ w' hR hd
      simp only [fill, Nat.reduceAdd, if_true, Bool.false_eq_true, if_false]
      obtain h6 : σ 6 = _ := hd 2 (by decide)
      rw [h6]
      clear h6
      clear hd
      have p1 : w'.cell? ⟨P.pp, 1, none⟩ = some (.map (some P.be)) := (HPB.out.fr hR (by simp; exact HNE.out.1)).cell (i := 1) rfl
      go_wp2
      exact ⟨Fr.refl _ _, rfl⟩
    · intro σ w' hR hd
      simp only [fill, Nat.reduceAdd, if_true, Bool.false_eq_true, if_false]
      clear hd
      go_wp2
      exact ⟨Fr.refl _ _, rfl⟩
    · intro σ w' hR hd
      simp only [fill, Nat.reduceAdd, if_true, Bool.false_eq_true, if_false]
      obtain h8 : σ 8 = _ := hd 4 (by decide)
      rw [h8]
      clear h8
      clear hd
      have b0 : w'.cell? ⟨be, 0, none⟩ = some (.string e.q.name) := (HBX.out.fr hR (by simp; exact HNE.out.2)).cell (i := 0) rfl
      have b1 : w'.cell? ⟨be, 1, none⟩ = some (.int .u16 e.q.ty) := (HBX.out.fr hR (by simp; exact HNE.out.2)).cell (i := 1) rfl
      have b2 : w'.cell? ⟨be, 2, none⟩ = some (.int .u16 e.q.cl) := (HBX.out.fr hR (by simp; exact HNE.out.2)).cell (i := 2) rfl
      go_wp2
      exact ⟨Fr.refl _ _, rfl⟩
    · intro σ w' hR hd
      simp only [fill, Nat.reduceAdd, if_true, Bool.false_eq_true, if_false]
      clear hd
      go_wp2
      exact ⟨Fr.refl _ _, rfl⟩
    · intro σ w' hR hd
      simp only [fill, Nat.reduceAdd, if_true, Bool.false_eq_true, if_false]
      obtain h10 : σ 10 = _ := hd 6 (by decide)
      rw [h10]
      clear h10
      clear hd
      have b6 : w'.cell? ⟨be, 6, none⟩ = some (.int .u64 e.expire) := (HBX.out.fr hR (by simp; exact HNE.out.2)).cell (i := 6) rfl
      go_wp2
      exact ⟨Fr.refl _ _, rfl⟩
    · intro σ w' hR hd hH
      simp only [fill, Nat.reduceAdd, if_true, Bool.false_eq_true, if_false]
      obtain h7 : σ 7 = _ := hd 3 (by decide)
      obtain h9 : σ 9 = _ := hd 5 (by decide)
      obtain h11 : σ 11 = _ := hd 7 (by decide)
      rw [h7, h9, h11]
      clear h7 h9 h11
      clear hd
      have hm5 : mapIs Qn.lit vU Try.prog 28 w' P.be s.E := hH
      obtain ⟨w5, hrun, hm6, htn⟩ := hm5.update lit_inj kq Try.underlying55 HLN.out (key_q e.q) (lit_key e.q) e.expire
      clear hm5
      unfold Qn.v vU at hrun
      go_wp2
      exact ⟨Fr.turned htn, trivial, hm6⟩
  · intro σ w3 hR hG hH
    simp only [fill, Nat.reduceAdd, if_true, Bool.false_eq_true, if_false]
    clear hG
    have hff : Fr [P.be] w0 w3 := (Fr.drew (Fr.refl _ _)).trans hR
    have HX := Hd.mk (And.intro (H0.out.putE hff hH) (And.intro ((HF0.out.mono (T := [P.be]) (by simp)).trans hff) trivial))
    clear hR hH hff
    refine bodyPost_end (v := .tuple #[]) (by simp [results, Try.results26, go_sem]) rfl ⟨rfl, HX.out.1, HX.out.2.1⟩
set_option maxRecDepth 100000 in
set_option maxHeartbeats 8000000 in
theorem pdrop_calls {w : World} {P : Pt} {s : Ps} (h : PtAt w P s) (q : Qn) : Calls Try.prog 24 #[.pointer (some ⟨P.pp, 0, none⟩), q.v] w fun r w' => r = .returned (.tuple #[]) ∧ PtAt w' P ⟨delE s.L q, delL s.E q⟩ ∧ Fr P.wr w w' := by
  have H := Hd.mk h
  clear h
  unfold Qn.v
  go_enter Try.func24, Try.ntmps24
  go_wp2_with fail
  refine wp_name ?_; intro w0 hw0
  have hf0 := alloc_of hw0
  have hb0 := blk_of (T := 28) (c := [.string q.name, .int .u16 q.ty, .int .u16 q.cl]) hw0
  clear hw0
  obtain ⟨bq, h_bq⟩ : ∃ p, w.heap.size = p := ⟨_, rfl⟩
  rw [h_bq] at hb0 ⊢
  have HF0 := Hd.mk hf0
  have H0 := Hd.mk (H.out.fr0 hf0)
  have HB0 := Hd.mk hb0
  have HPB : Hd (Blk w0.drew P.pp 57 [.pointer (some ⟨P.pm, 0, none⟩), .map (some P.be)]) := Hd.mk H0.out.blk.drew
  have HBX : Hd (Blk w0.drew bq 28 [.string q.name, .int .u16 q.ty, .int .u16 q.cl]) := Hd.mk hb0.drew
  have HNE : Hd (P.pp ≠ P.bm ∧ bq ≠ P.bm) := Hd.mk ⟨Ne.symm H.out.nes.1, by have := H.out.m.blt; omega⟩
  have HMM : Hd (MAt w0.drew P.pm P.bm P.room s.L) := Hd.mk (H0.out.m.fr ((Fr.refl [] w0).drew) (by simp) (by simp))
  have HN2 : Hd (bq ≠ P.be) := Hd.mk (by have := H.out.e.lt; omega)
  clear hf0 hb0 h_bq
  refine wp_region_gs { R := Fr [P.bm], R1 := Fr [], gs := [Is (.pointer (some ⟨P.pp, 0, none⟩)), Is (.pointer (some ⟨P.pp, 0, none⟩)), Is (.pointer (some ⟨P.pp, 0, none⟩)), Is (.pointer (some ⟨P.pm, 0, none⟩)), Is (.agg #[.string q.name, .int .u16 q.ty, .int .u16 q.cl]), No], ds := [some 4, some 5, some 6, some 7, some 8, some 9], fl := [false, false, false, false, false, true], hs := [fun _ w2 => MAt w2 P.pm P.bm P.room s.L, fun _ w2 => MAt w2 P.pm P.bm P.room (delE s.L q)], hd := [[], []] } [false, false, false, false, true, true, true, true, true, true, false, false, false, false, false] (by kernel_rfl) _ (by kernel_rfl) (by kernel_rfl) (by kernel_rfl) (by kernel_rfl) rfl [] (fun _ _ _ h1 h2 => h1.trans h2) (fun _ _ h => h.mono (by simp)) (staI (staI (staI (staI (staI (staN sta0)))))) (sth (fun _ _ _ hf h => h.fr hf (by simp) (by simp)) (sth (fun _ _ _ hf h => h.fr hf (by simp) (by simp)) sth0)) (fun _ _ h => h.size) _ (Fr.refl _ _) HMM.out ?_ ?_
  · refine ⟨?_, ?_, ?_, ?_, ?_, ?_, trivial⟩
    · intro σ w' hR hd
      simp only [fill, Nat.reduceAdd, if_true, Bool.false_eq_true, if_false]
      clear hd
      go_wp2
      exact ⟨Fr.refl _ _, rfl⟩
    · intro σ w' hR hd
      simp only [fill, Nat.reduceAdd, if_true, Bool.false_eq_true, if_false]
      obtain h4 : σ 4 = _ := hd 0 (by decide)
      rw [h4]
      clear h4
      clear hd
      go_wp2
      exact ⟨Fr.refl _ _, rfl⟩
    · intro σ w' hR hd
      simp only [fill, Nat.reduceAdd, if_true, Bool.false_eq_true, if_false]
      obtain h5 : σ 5 = _ := hd 1 (by decide)
      rw [h5]
      clear h5
      clear hd
      go_wp2
      exact ⟨Fr.refl _ _, rfl⟩
    · intro σ w' hR hd
      simp only [fill, Nat.reduceAdd, if_true, Bool.false_eq_true, if_false]
      obtain h6 : σ 6 = _ := hd 2 (by decide)
      rw [h6]
      clear h6
      clear hd
      have p0 : w'.cell? ⟨P.pp, 0, none⟩ = some (.pointer (some ⟨P.pm, 0, none⟩)) := (HPB.out.fr hR (by simp; exact HNE.out.1)).cell (i := 0) rfl
      go_wp2
      exact ⟨Fr.refl _ _, rfl⟩
    · intro σ w' hR hd
      simp only [fill, Nat.reduceAdd, if_true, Bool.false_eq_true, if_false]
      clear hd
      have b0 : w'.cell? ⟨bq, 0, none⟩ = some (.string q.name) := (HBX.out.fr hR (by simp; exact HNE.out.2)).cell (i := 0) rfl
      have b1 : w'.cell? ⟨bq, 1, none⟩ = some (.int .u16 q.ty) := (HBX.out.fr hR (by simp; exact HNE.out.2)).cell (i := 1) rfl
      have b2 : w'.cell? ⟨bq, 2, none⟩ = some (.int .u16 q.cl) := (HBX.out.fr hR (by simp; exact HNE.out.2)).cell (i := 2) rfl
      go_wp2
      exact ⟨Fr.refl _ _, rfl⟩
    · intro σ w' hR hd hH
      simp only [fill, Nat.reduceAdd, if_true, Bool.false_eq_true, if_false]
      obtain h7 : σ 7 = _ := hd 3 (by decide)
      obtain h8 : σ 8 = _ := hd 4 (by decide)
      rw [h7, h8]
      clear h7 h8
      clear hd
      have hm : MAt w' P.pm P.bm P.room s.L := hH
      have HM := Hd.mk hm
      clear hm hH
      go_wp2_with fail
      refine (drop_calls HM.out q).mono ?_
      rintro r w4 ⟨rfl, hm4, hf4⟩
      have HM4 := Hd.mk hm4
      have HF4 := Hd.mk hf4
      clear hm4 hf4
      go_wp2
      exact ⟨HF4.out, trivial, HM4.out⟩
  · intro σ w3 hR hG hH
    simp only [fill, Nat.reduceAdd, if_true, Bool.false_eq_true, if_false]
    clear hG
    have hff : Fr [P.bm] w0 w3 := (Fr.drew (Fr.refl _ _)).trans hR
    have H2 := Hd.mk (H0.out.putL hff hH)
    have HB2 := Hd.mk (HB0.out.fr hff (by simpa using HNE.out.2))
    have HF2 : Hd (Fr [P.bm] w w3) := Hd.mk ((HF0.out.mono (T := [P.bm]) (by simp)).trans hff)
    clear hR hH hff
    obtain ⟨w5, hw5⟩ : ∃ x, w3 = x := ⟨_, rfl⟩
    rw [hw5] at H2 HB2 HF2 ⊢
    clear hw5
    go_wp2_with fail
    have HPB2 : Hd (Blk w5.drew P.pp 57 [.pointer (some ⟨P.pm, 0, none⟩), .map (some P.be)]) := Hd.mk H2.out.blk.drew
    have HBX2 : Hd (Blk w5.drew bq 28 [.string q.name, .int .u16 q.ty, .int .u16 q.cl]) := Hd.mk HB2.out.drew
    have HNE2 : Hd (P.pp ≠ P.be ∧ bq ≠ P.be) := Hd.mk ⟨Ne.symm H.out.nes.2.2.1, HN2.out⟩
    have HME2 : Hd (mapIs Qn.lit vU Try.prog 28 w5.drew P.be s.E) := Hd.mk (mapIs_block H2.out.e rfl)
    refine wp_region_gs { R := Fr [P.be], R1 := Fr [], gs := [Is (.pointer (some ⟨P.pp, 0, none⟩)), Is (.pointer (some ⟨P.pp, 0, none⟩)), Is (.pointer (some ⟨P.pp, 1, none⟩)), Is (.map (some P.be)), Is (.agg #[.string q.name, .int .u16 q.ty, .int .u16 q.cl]), No], ds := [some 10, some 11, some 12, some 13, some 14, none], fl := [false, false, false, false, false, true], hs := [fun _ w2 => mapIs Qn.lit vU Try.prog 28 w2 P.be s.E, fun _ w2 => mapIs Qn.lit vU Try.prog 28 w2 P.be (delL s.E q)], hd := [[], []] } [false, false, false, false, false, false, false, false, false, false, true, true, true, true, true] (by kernel_rfl) _ (by kernel_rfl) (by kernel_rfl) (by kernel_rfl) (by kernel_rfl) rfl [] (fun _ _ _ h1 h2 => h1.trans h2) (fun _ _ h => h.mono (by simp)) (staI (staI (staI (staI (staI (staN sta0)))))) (sth (fun _ _ _ hf h => map_fr h hf (by simp)) (sth (fun _ _ _ hf h => map_fr h hf (by simp)) sth0)) (fun _ _ h => h.size) _ (Fr.refl _ _) HME2.out ?_ ?_
    · refine ⟨?_, ?_, ?_, ?_, ?_, ?_, trivial⟩
      · intro σ2 w' hR hd
        simp only [fill, Nat.reduceAdd, if_true, Bool.false_eq_true, if_false]
        clear hd
        go_wp2
        exact ⟨Fr.refl _ _, rfl⟩
      · intro σ2 w' hR hd
        simp only [fill, Nat.reduceAdd, if_true, Bool.false_eq_true, if_false]
        obtain h10 : σ2 10 = _ := hd 0 (by decide)
        rw [h10]
        clear h10
        clear hd
        go_wp2
        exact ⟨Fr.refl _ _, rfl⟩
      · intro σ2 w' hR hd
        simp only [fill, Nat.reduceAdd, if_true, Bool.false_eq_true, if_false]
        obtain h11 : σ2 11 = _ := hd 1 (by decide)
        rw [h11]
        clear h11
        clear hd
        go_wp2
        exact ⟨Fr.refl _ _, rfl⟩
      · intro σ2 w' hR hd
        simp only [fill, Nat.reduceAdd, if_true, Bool.false_eq_true, if_false]
        obtain h12 : σ2 12 = _ := hd 2 (by decide)
        rw [h12]
        clear h12
        clear hd
        have p1 : w'.cell? ⟨P.pp, 1, none⟩ = some (.map (some P.be)) := (HPB2.out.fr hR (by simp; exact HNE2.out.1)).cell (i := 1) rfl
        go_wp2
        exact ⟨Fr.refl _ _, rfl⟩
      · intro σ2 w' hR hd
        simp only [fill, Nat.reduceAdd, if_true, Bool.false_eq_true, if_false]
        clear hd
        have b0 : w'.cell? ⟨bq, 0, none⟩ = some (.string q.name) := (HBX2.out.fr hR (by simp; exact HNE2.out.2)).cell (i := 0) rfl
        have b1 : w'.cell? ⟨bq, 1, none⟩ = some (.int .u16 q.ty) := (HBX2.out.fr hR (by simp; exact HNE2.out.2)).cell (i := 1) rfl
        have b2 : w'.cell? ⟨bq, 2, none⟩ = some (.int .u16 q.cl) := (HBX2.out.fr hR (by simp; exact HNE2.out.2)).cell (i := 2) rfl
        go_wp2
        exact ⟨Fr.refl _ _, rfl⟩
      · intro σ2 w' hR hd hH
        simp only [fill, Nat.reduceAdd, if_true, Bool.false_eq_true, if_false]
        obtain h13 : σ2 13 = _ := hd 3 (by decide)
        obtain h14 : σ2 14 = _ := hd 4 (by decide)
        rw [h13, h14]
        clear h13 h14
        clear hd
        have hm5 : mapIs Qn.lit vU Try.prog 28 w' P.be s.E := hH
        obtain ⟨w5, hrun, hm6, htn⟩ := hm5.drop lit_inj kq Try.underlying55 (key_q q) 0
        clear hm5
        unfold Qn.v at hrun
        go_wp2
        exact ⟨Fr.turned htn, trivial, hm6⟩
    · intro σ2 w3 hR hG hH
      simp only [fill, Nat.reduceAdd, if_true, Bool.false_eq_true, if_false]
      clear hG
      have hff : Fr [P.be] w5 w3 := (Fr.drew (Fr.refl _ _)).trans hR
      have HX := Hd.mk (And.intro (H2.out.putE hff hH) (And.intro ((HF2.out.mono (T := P.wr) (by simp [Pt.wr])).trans (hff.mono (by simp [Pt.wr]))) trivial))
      clear hR hH hff
      refine bodyPost_end (v := .tuple #[]) (by simp [results, Try.results24, go_sem]) rfl ⟨rfl, HX.out.1, HX.out.2.1⟩
/-! ### due -/
theorem len_subP {α : Type} : ∀ {l m : List α}, l.Nodup → (∀ x ∈ l, x ∈ m) → l.length ≤ m.length := by
  intro l
  induction l with
  | nil => intro m _ _; simp
  | cons a l ih =>
    intro m hn hs
    rw [List.nodup_cons] at hn
    obtain ⟨u, v, hm⟩ := List.append_of_mem (hs a List.mem_cons_self)
    subst hm
    have h1 : ∀ x ∈ l, x ∈ u ++ v := fun x hx => by
      have h2 := hs x (List.mem_cons_of_mem _ hx)
      rcases List.mem_append.1 h2 with h3 | h3
      · exact List.mem_append_left _ h3
      · rcases List.mem_cons.1 h3 with rfl | h3
        · exact absurd hx hn.1
        · exact List.mem_append_right _ h3
    have h2 := ih hn.2 h1
    simp only [List.length_append, List.length_cons] at h2 ⊢; omega
def dueN (E : List (Qn × Int)) (now : Int) : Nat := (E.filter fun p => !liveB p.2 now).length
theorem dueN_app (now : Int) (E : List (Qn × Int)) (q : Qn) (t : Int) : dueN (E ++ [(q, t)]) now = if liveB t now then dueN E now else dueN E now + 1 := by
  unfold dueN
  rw [List.filter_append]
  cases h : liveB t now <;> simp [h]
theorem rg_apart {ev : Int → Value} {w : World} {b r : Nat} {L done : List (Qn × Int)} (h : rangeIs Qn.lit ev Try.prog 28 w b r L done) : done.Pairwise fun p q => p.1 ≠ q.1 := by
  obtain ⟨_, _, _, -, -, h, -⟩ := h
  exact h
theorem rg_sub {ev : Int → Value} {w : World} {b r : Nat} {L done : List (Qn × Int)} (h : rangeIs Qn.lit ev Try.prog 28 w b r L done) : ∀ p ∈ done, p ∈ L := by
  obtain ⟨_, _, _, -, -, -, h, -⟩ := h
  exact h
theorem me_apart {ev : Int → Value} {w : World} {b : Nat} {L : List (Qn × Int)} (h : mapIs Qn.lit ev Try.prog 28 w b L) : L.Pairwise fun p q => p.1 ≠ q.1 := by
  obtain ⟨_, -, h⟩ := h
  exact h.apart
theorem dueN_done {ev : Int → Value} {w : World} {b r : Nat} {L done : List (Qn × Int)} {now : Int} (h : rangeIs Qn.lit ev Try.prog 28 w b r L done) (hall : ∀ p ∈ L, p ∈ done) (hm : L.Pairwise fun p q => p.1 ≠ q.1) : dueN done now = dueN L now := by
  have hp : done.Perm L := (List.perm_ext_iff_of_nodup ((rg_apart h).imp fun h e => h (by rw [e])) (hm.imp fun h e => h (by rw [e]))).2 fun p => ⟨rg_sub h p, hall p⟩
  unfold dueN
  exact (hp.filter _).length_eq
theorem dueN_le (E : List (Qn × Int)) (now : Int) : dueN E now ≤ E.length := List.length_filter_le _ _
set_option maxRecDepth 100000 in
set_option maxHeartbeats 8000000 in
theorem pdue_calls {w : World} {P : Pt} {s : Ps} (h : PtAt w P s) (hL : s.E.length < 1000000) (now : Int) : Calls Try.prog 30 #[.pointer (some ⟨P.pp, 0, none⟩), .int .u64 now] w fun r w' => r = .returned (.int .i64 (dueN s.E now)) ∧ Fr [] w w' := by
  have p1 : w.cell? ⟨P.pp, 1, none⟩ = some (.map (some P.be)) := h.blk.cell (i := 1) rfl
  have hmap := h.e
  have hap := me_apart h.e
  have H := Hd.mk h
  have HAP := Hd.mk hap
  clear h hap
  go_enter Try.func30, Try.ntmps30
  go_wp2_with (at_range; refine map_range rfl (.tmp 11) 55 rfl 30 kq Try.underlying55 rfl hmap ?_; intro w0 hrg0 hg0 hs0)
  go_frame
  have HF0 : Hd (Fr [] w w0) := Hd.mk ((Fr.of_grown hg0).mono (by simp))
  clear p1 hg0 hs0 hmap
  go_loopw [5] (fun v wr => ∃ done, rangeIs Qn.lit vU Try.prog 28 wr P.be w.heap.size s.E done ∧ v = .int .i64 (dueN done now) ∧ done.length ≤ s.E.length ∧ Fr [] w wr) (fun _ wr => wr.rangeLeft P.be w.heap.size)
  case atStart => exact ⟨[], hrg0, rfl, Nat.zero_le _, HF0.out⟩
  case round =>
    obtain ⟨done, hrg, rfl, hdl, hfr⟩ := hrel
    have HFR := Hd.mk hfr
    clear hfr
    go_wp2_with (at_next; refine map_next lit_inj lit_key Qn.v (fun _ _ hh => q_inv hh) rfl (.tmp 12) rfl kq rfl hrg ?_ ?_)
    · intro hall
      have he : dueN done now = dueN s.E now := dueN_done hrg (fun p hp => hall p.1 p.2 hp) HAP.out
      rw [he]
      clear hall hrg hrg0 he
      go_wp2_with fail
      go_ret
      exact ⟨rfl, HFR.out⟩
    · intro q t w2 hmem hnew hrg2 hlt hgr hsz2 hen
      have HF2 : Hd (Fr [] w w2) := Hd.mk (HFR.out.weak (Fr.of_grown hgr) (fun x hx => .inr (by simp at hx; omega)))
      have hdl2 : (done ++ [(q, t)]).length ≤ s.E.length := by
        have h1 : (done ++ [(q, t)]).Nodup := (rg_apart hrg2).imp fun h e => h (by rw [e])
        exact len_subP h1 (rg_sub hrg2)
      have hdn := dueN_le done now
      have HDL := Hd.mk hdl2
      have HRG := Hd.mk hrg2
      have HLT := Hd.mk hlt
      have hvu : vU t = .int .u64 t := rfl
      rw [hvu] at hen ⊢
      clear hmem hnew hrg2 hlt hgr hrg hrg0
      go_wp2_with fail
      refine (live_calls t now _).mono ?_
      rintro r w3 ⟨rfl, rfl⟩
      cases hl : liveB t now with
      | true =>
        have hnn : dueN (done ++ [(q, t)]) now = dueN done now := by rw [dueN_app, hl, if_pos rfl]
        go_wp2
        go_roundw
        case rel => exact ⟨_, HRG.out, by rw [hnn], HDL.out, HF2.out⟩
        case measure => exact HLT.out
      | false =>
        have hnn : dueN (done ++ [(q, t)]) now = dueN done now + 1 := by rw [dueN_app, hl]; rfl
        have hL' := hL
        go_wp2
        go_roundw
        case rel => exact ⟨_, HRG.out, by rw [hnn]; go_num, HDL.out, HF2.out⟩
        case measure => exact HLT.out
end Go.Proofs.Ytbmejolmbfmdiaa
