import Derived.Test.YtbmejolmbfmdiaaRdr
namespace Go.Proofs.Ytbmejolmbfmdiaa
open Go Go.RowKit Go.ChangeShapes Go.WideShapes Go.Deep Go.Joins Go.Lib Go.Proofs.MapL

theorem u16_of {n : Int} (h : (Lit.int .u16 n).wf = true) : 0 ≤ n ∧ n < 65536 := by
  simp [Lit.wf, IntKind.min, IntKind.max, IntKind.signed, IntKind.bits] at h
  omega
theorem i64_of {n : Int} (h : (Lit.int .i64 n).wf = true) : -9223372036854775808 ≤ n ∧ n ≤ 9223372036854775807 := by
  simp [Lit.wf, IntKind.min, IntKind.max, IntKind.signed, IntKind.bits] at h
  omega
theorem rdQ : Rd Try.prog 28 3 (fun _ cs => ∃ q : Qn, cs = q.c ∧ True) := by
  refine ⟨by kernel_rfl, fun H enc w base spare held fuel cs x hx => ?_⟩
  obtain ⟨hl, hf⟩ := rd_fields Try.underlying28 hx
  rw [show Try.prog.cellsOf 28 = 3 by kernel_rfl] at hl
  have g0 := hf 0 _ _ _ rfl (rd_string Try.underlying9 (by kernel_rfl))
  obtain ⟨a0, q0, w0⟩ := g0
  have q0 : (cs.drop 0).take 1 = _ := q0
  have g1 := hf 1 _ _ _ rfl (rd_int Try.underlying26 (by kernel_rfl))
  obtain ⟨a1, q1, w1⟩ := g1
  have q1 : (cs.drop 1).take 1 = _ := q1
  have g2 := hf 2 _ _ _ rfl (rd_int Try.underlying26 (by kernel_rfl))
  obtain ⟨a2, q2, w2⟩ := g2
  have q2 : (cs.drop 2).take 1 = _ := q2
  have e : cs = (cs.drop 0).take 1 ++ ((cs.drop 1).take 1 ++ ((cs.drop 2).take 1)) := by
    have e2 : cs.drop 2 = (cs.drop 2).take 1 := (List.take_of_length_le (by simp; omega)).symm
    exact (drop_split cs 0 1).trans (congrArg _ ((drop_split cs 1 1).trans (congrArg _ (e2))))
  rw [q0, q1, q2] at e
  exact ⟨⟨a0, a1, a2, w0, u16_of w1, u16_of w2⟩, e, trivial⟩
theorem rdR : Rd Try.prog 79 5 (fun _ cs => ∃ r : Rr, cs = r.cs ∧ True) := by
  refine ⟨by kernel_rfl, fun H enc w base spare held fuel cs x hx => ?_⟩
  obtain ⟨hl, hf⟩ := rd_fields Try.underlying79 hx
  rw [show Try.prog.cellsOf 79 = 5 by kernel_rfl] at hl
  have g0 := hf 0 _ _ _ rfl (rd_string Try.underlying9 (by kernel_rfl))
  obtain ⟨a0, q0, w0⟩ := g0
  have q0 : (cs.drop 0).take 1 = _ := q0
  have g1 := hf 1 _ _ _ rfl (rd_int Try.underlying26 (by kernel_rfl))
  obtain ⟨a1, q1, w1⟩ := g1
  have q1 : (cs.drop 1).take 1 = _ := q1
  have g2 := hf 2 _ _ _ rfl (rd_int Try.underlying26 (by kernel_rfl))
  obtain ⟨a2, q2, w2⟩ := g2
  have q2 : (cs.drop 2).take 1 = _ := q2
  have g3 := hf 3 _ _ _ rfl (rd_int Try.underlying77 (by kernel_rfl))
  obtain ⟨a3, q3, w3⟩ := g3
  have q3 : (cs.drop 3).take 1 = _ := q3
  have g4 := hf 4 _ _ _ rfl (rd_string Try.underlying9 (by kernel_rfl))
  obtain ⟨a4, q4, w4⟩ := g4
  have q4 : (cs.drop 4).take 1 = _ := q4
  have e : cs = (cs.drop 0).take 1 ++ ((cs.drop 1).take 1 ++ ((cs.drop 2).take 1 ++ ((cs.drop 3).take 1 ++ ((cs.drop 4).take 1)))) := by
    have e4 : cs.drop 4 = (cs.drop 4).take 1 := (List.take_of_length_le (by simp; omega)).symm
    exact (drop_split cs 0 1).trans (congrArg _ ((drop_split cs 1 1).trans (congrArg _ ((drop_split cs 2 1).trans (congrArg _ ((drop_split cs 3 1).trans (congrArg _ (e4))))))))
  rw [q0, q1, q2, q3, q4] at e
  exact ⟨⟨a0, a1, a2, a3, a4⟩, e, trivial⟩
theorem rdRs : Rd Try.prog 29 1 (fun w c => ∃ A cap l, c = [.slice A l.length cap] ∧ SlIs Rr.cs 5 w A l.length l ∧ ∀ x ∈ l, True) := rd_slice (by omega) (fun _ => rfl) Try.underlying29 (by kernel_rfl) rdR
theorem rdQs : Rd Try.prog 36 1 (fun w c => ∃ A cap l, c = [.slice A l.length cap] ∧ SlIs Qn.c 3 w A l.length l ∧ ∀ x ∈ l, True) := rd_slice (by omega) (fun _ => rfl) Try.underlying36 (by kernel_rfl) rdQ
theorem rdE : Rd Try.prog 32 7 (fun w cs => ∃ y : En, cs = y.c ∧ RecOK w y) := by
  refine ⟨by kernel_rfl, fun H enc w base spare held fuel cs x hx => ?_⟩
  obtain ⟨hl, hf⟩ := rd_fields Try.underlying32 hx
  rw [show Try.prog.cellsOf 32 = 7 by kernel_rfl] at hl
  have g0 := hf 0 _ _ _ rfl rdQ
  obtain ⟨a0, q0, -⟩ := g0
  have q0 : (cs.drop 0).take 3 = _ := q0
  have g1 := hf 1 _ _ _ rfl rdRs
  obtain ⟨A1, c1, l1, q1, s1, -⟩ := g1
  have q1 : (cs.drop 3).take 1 = _ := q1
  have g2 := hf 2 _ _ _ rfl (rd_int Try.underlying3 (by kernel_rfl))
  obtain ⟨a2, q2, w2⟩ := g2
  have q2 : (cs.drop 4).take 1 = _ := q2
  have g3 := hf 3 _ _ _ rfl (rd_int Try.underlying3 (by kernel_rfl))
  obtain ⟨a3, q3, w3⟩ := g3
  have q3 : (cs.drop 5).take 1 = _ := q3
  have g4 := hf 4 _ _ _ rfl (rd_int Try.underlying30 (by kernel_rfl))
  obtain ⟨a4, q4, w4⟩ := g4
  have q4 : (cs.drop 6).take 1 = _ := q4
  have e : cs = (cs.drop 0).take 3 ++ ((cs.drop 3).take 1 ++ ((cs.drop 4).take 1 ++ ((cs.drop 5).take 1 ++ ((cs.drop 6).take 1)))) := by
    have e4 : cs.drop 6 = (cs.drop 6).take 1 := (List.take_of_length_le (by simp; omega)).symm
    exact (drop_split cs 0 3).trans (congrArg _ ((drop_split cs 3 1).trans (congrArg _ ((drop_split cs 4 1).trans (congrArg _ ((drop_split cs 5 1).trans (congrArg _ (e4))))))))
  rw [q0, q1, q2, q3, q4] at e
  exact ⟨⟨a0, A1, l1.length, c1, a2, a3, a4⟩, e, ⟨l1, s1⟩⟩
theorem rdD : Rd Try.prog 40 9 (fun w cs => ∃ (k : Int) (y : En) (t : Int), cs = [.int .i64 k] ++ (y.c ++ [.int .u64 t]) ∧ RecOK w y) := by
  refine ⟨by kernel_rfl, fun H enc w base spare held fuel cs x hx => ?_⟩
  obtain ⟨hl, hf⟩ := rd_fields Try.underlying40 hx
  rw [show Try.prog.cellsOf 40 = 9 by kernel_rfl] at hl
  have g0 := hf 0 _ _ _ rfl (rd_int Try.underlying3 (by kernel_rfl))
  obtain ⟨a0, q0, w0⟩ := g0
  have q0 : (cs.drop 0).take 1 = _ := q0
  have g1 := hf 1 _ _ _ rfl rdE
  obtain ⟨y, q1, hy⟩ := g1
  have q1 : (cs.drop 1).take 7 = _ := q1
  have g2 := hf 2 _ _ _ rfl (rd_int Try.underlying30 (by kernel_rfl))
  obtain ⟨a2, q2, w2⟩ := g2
  have q2 : (cs.drop 8).take 1 = _ := q2
  have e : cs = (cs.drop 0).take 1 ++ ((cs.drop 1).take 7 ++ ((cs.drop 8).take 1)) := by
    have e2 : cs.drop 8 = (cs.drop 8).take 1 := (List.take_of_length_le (by simp; omega)).symm
    exact (drop_split cs 0 1).trans (congrArg _ ((drop_split cs 1 7).trans (congrArg _ (e2))))
  rw [q0, q1, q2] at e
  exact ⟨a0, y, a2, e, hy⟩
theorem rdEv : Rd Try.prog 42 20 (fun w cs => ∃ x : Ev, cs = evC x ∧ (EvOK w x ∧ shI x)) := by
  refine ⟨by kernel_rfl, fun H enc w base spare held fuel cs x hx => ?_⟩
  obtain ⟨hl, hf⟩ := rd_fields Try.underlying42 hx
  rw [show Try.prog.cellsOf 42 = 20 by kernel_rfl] at hl
  have g0 := hf 0 _ _ _ rfl rdD
  obtain ⟨k, y, nw, q0, hy⟩ := g0
  have q0 : (cs.drop 0).take 9 = _ := q0
  have g1 := hf 1 _ _ _ rfl (rd_int Try.underlying3 (by kernel_rfl))
  obtain ⟨a1, q1, w1⟩ := g1
  have q1 : (cs.drop 9).take 1 = _ := q1
  have g2 := hf 2 _ _ _ rfl rdE
  obtain ⟨z, q2, hz⟩ := g2
  have q2 : (cs.drop 10).take 7 = _ := q2
  have g3 := hf 3 _ _ _ rfl (rd_bool Try.underlying4 (by kernel_rfl))
  obtain ⟨a3, q3⟩ := g3
  have q3 : (cs.drop 17).take 1 = _ := q3
  have g4 := hf 4 _ _ _ rfl (rd_int Try.underlying3 (by kernel_rfl))
  obtain ⟨a4, q4, w4⟩ := g4
  have q4 : (cs.drop 18).take 1 = _ := q4
  have g5 := hf 5 _ _ _ rfl rdQs
  obtain ⟨A5, c5, l5, q5, s5, -⟩ := g5
  have q5 : (cs.drop 19).take 1 = _ := q5
  have e : cs = (cs.drop 0).take 9 ++ ((cs.drop 9).take 1 ++ ((cs.drop 10).take 7 ++ ((cs.drop 17).take 1 ++ ((cs.drop 18).take 1 ++ ((cs.drop 19).take 1))))) := by
    have e5 : cs.drop 19 = (cs.drop 19).take 1 := (List.take_of_length_le (by simp; omega)).symm
    exact (drop_split cs 0 9).trans (congrArg _ ((drop_split cs 9 1).trans (congrArg _ ((drop_split cs 10 7).trans (congrArg _ ((drop_split cs 17 1).trans (congrArg _ ((drop_split cs 18 1).trans (congrArg _ (e5))))))))))
  rw [q0, q1, q2, q3, q4, q5] at e
  exact ⟨⟨k, y, nw, a1, z, a3, a4, A5, l5.length, c5, l5⟩, e, ⟨hy, hz, s5⟩, i64_of w1⟩
theorem rdEvs : Rd Try.prog 22 1 (fun w c => ∃ A cap l, c = [.slice A l.length cap] ∧ SlIs evC 20 w A l.length l ∧ ∀ x ∈ l, EvOK w x ∧ shI x) := rd_slice (by omega) (fun _ => rfl) Try.underlying22 (by kernel_rfl) rdEv
end Go.Proofs.Ytbmejolmbfmdiaa
