import Derived.Test.YtnikhiegnledlaaM5
import Derived.Test.YtnikhiegnledlaaSrt
namespace Go.Proofs.Ytnikhiegnledlaa
open Go Go.RowKit Go.Proofs.MapL

set_option maxRecDepth 100000 in
/-- What reads as a question's key is a question. -/
theorem q_inv {key : Value} {kl : Lit} (h : keyOf Try.prog 25 key = some kl) : ∃ q : Qn, key = q.v ∧ kl = q.lit := by
  have h0 := h
  unfold keyOf at h
  rw [Try.underlying25] at h
  dsimp only at h
  split at h
  case isFalse => exact (Option.some_ne_none _ h.symm).elim
  case isTrue hf =>
    rw [Bool.and_eq_true] at hf
    obtain ⟨m, hm⟩ : ∃ m, Try.prog.types.size = m + 1 := ⟨Try.prog.types.size - 1, by
      have : 0 < Try.prog.types.size := of_decide_eq_true (by kernel_rfl)
      omega⟩
    have hq : Try.prog.cellsOf 25 = 3 := by kernel_rfl
    have h9 : Try.prog.cellsOf 9 = 1 := by kernel_rfl
    have h23 : Try.prog.cellsOf 23 = 1 := by kernel_rfl
    rw [hm] at h
    have hform := hf.2
    cases key with
    | agg cs =>
      have hsz : cs.size = 3 := by
        have h2 := hform
        unfold Value.formed at h2
        rw [Try.underlying25, hq] at h2
        simpa using h2
      obtain ⟨cs⟩ := cs
      match cs, hsz with
      | [a, b, c], _ =>
      have hs : ∀ v ls, Try.prog.keyLits (m + 1) 9 [v] = some ls → ∃ s : ByteArray, v = .string s ∧ s.size ≤ maxLen := by
        intro v ls hv
        unfold Program.keyLits at hv
        rw [Try.underlying9] at hv
        cases v <;> simp only [reduceCtorEq] at hv
        rename_i s
        split at hv
        · rename_i h2; exact ⟨s, rfl, h2⟩
        · exact (Option.some_ne_none _ hv.symm).elim
      have hi : ∀ v ls, Try.prog.keyLits (m + 1) 23 [v] = some ls → ∃ n : Int, v = .int .u16 n ∧ 0 ≤ n ∧ n < 65536 := by
        intro v ls hv
        unfold Program.keyLits at hv
        rw [Try.underlying23] at hv
        cases v <;> simp only [reduceCtorEq] at hv
        rename_i k n
        split at hv
        · rename_i h2
          obtain ⟨rfl, hw⟩ := h2
          refine ⟨n, rfl, ?_⟩
          simp [Lit.wf, IntKind.min, IntKind.max, IntKind.signed, IntKind.bits] at hw
          omega
        · exact (Option.some_ne_none _ hv.symm).elim
      have hh : ∃ s n1 n2, a = .string s ∧ s.size ≤ maxLen ∧ b = .int .u16 n1 ∧ (0 ≤ n1 ∧ n1 < 65536) ∧ c = .int .u16 n2 ∧ (0 ≤ n2 ∧ n2 < 65536) := by
        have hc : (Value.agg (#[a, b, c])).cells.toList = [a, b, c] := rfl
        rw [Option.map_eq_some_iff] at h
        obtain ⟨ls, hls, -⟩ := h
        rw [hc] at hls
        unfold Program.keyLits at hls
        rw [Try.underlying25] at hls
        dsimp only at hls
        split at hls
        case isFalse => exact (Option.some_ne_none _ hls.symm).elim
        case isTrue =>
          simp only [List.mapM_cons, List.mapM_nil, h9, h23, List.drop_zero, List.drop_succ_cons, List.take_succ_cons, List.take_zero] at hls
          cases e1 : Try.prog.keyLits (m + 1) 9 [a] with
          | none => rw [e1] at hls; exact (Option.some_ne_none _ hls.symm).elim
          | some l1 =>
            cases e2 : Try.prog.keyLits (m + 1) 23 [b] with
            | none => rw [e1, e2] at hls; exact (Option.some_ne_none _ hls.symm).elim
            | some l2 =>
              cases e3 : Try.prog.keyLits (m + 1) 23 [c] with
              | none => rw [e1, e2, e3] at hls; exact (Option.some_ne_none _ hls.symm).elim
              | some l3 =>
                obtain ⟨s, r1, r2⟩ := hs _ _ e1
                obtain ⟨n1, r3, r4⟩ := hi _ _ e2
                obtain ⟨n2, r5, r6⟩ := hi _ _ e3
                exact ⟨s, n1, n2, r1, r2, r3, r4, r5, r6⟩
      obtain ⟨s, n1, n2, rfl, r2, rfl, r4, rfl, r6⟩ := hh
      let q : Qn := ⟨s, n1, n2, r2, r4, r6⟩
      have hk := key_q q
      have e : (Value.agg ⟨[.string s, .int .u16 n1, .int .u16 n2]⟩) = q.v := rfl
      refine ⟨q, e, ?_⟩
      rw [e, hk] at h0
      exact (Option.some.inj h0).symm
    | _ =>
      exfalso
      unfold Value.formed at hform
      first
        | (rw [Try.underlying25] at hform; simp at hform)
        | simp at hform
end Go.Proofs.Ytnikhiegnledlaa
