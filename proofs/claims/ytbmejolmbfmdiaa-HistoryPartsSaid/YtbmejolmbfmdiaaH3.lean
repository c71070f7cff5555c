import Derived.Test.YtbmejolmbfmdiaaH2
import Derived.Deep.Cut
import Derived.Deep.CutBlock
import Derived.Deep.Upon
import Derived.LoopN
import Derived.Laws.EntriesVeiled
namespace Go.Proofs.Ytbmejolmbfmdiaa
open Go Go.RowKit Go.Lib Go.Proofs.MapL
attribute [local go_sem high] eqQ

/-- An entry's records are there. -/
def RecOK (w : World) (e : En) : Prop := ∃ l, Recs w e l
open Classical in
/-- The records that an entry has. -/
noncomputable def rho (w : World) (e : En) : List Rr := if h : RecOK w e then h.choose else []
theorem rho_recs {w : World} {e : En} (h : RecOK w e) : Recs w e (rho w e) := by
  unfold rho
  rw [dif_pos h]
  exact h.choose_spec
theorem Recs.fr {w w' : World} {e : En} {l : List Rr} (h : Recs w e l) (hf : Fr [] w w') : Recs w' e l := SlIs.fr h hf
/-- Two entries are the same. -/
def sameB (ρ : En → List Rr) (a b : En) : Bool := decide (a.q = b.q) && decide (a.rcode = b.rcode) && decide (a.rank = b.rank) && decide (a.expire = b.expire) && decide (ρ a = ρ b)
set_option maxRecDepth 100000 in
set_option maxHeartbeats 8000000 in
theorem same_calls {w0 w : World} (h0 : Fr [] w0 w) {a b : En} (ha : RecOK w0 a) (hb : RecOK w0 b) : Calls Try.prog 28 #[a.v, b.v] w fun r w' => r = .returned (.bool (sameB (rho w0) a b)) ∧ Fr [] w w' := by
  have HA := Hd.mk ((rho_recs ha).fr h0)
  have HB := Hd.mk ((rho_recs hb).fr h0)
  obtain ⟨ρ, hρ⟩ : ∃ ρ, rho w0 = ρ := ⟨_, rfl⟩
  rw [hρ] at HA HB ⊢
  clear ha hb h0 hρ
  unfold En.v
  have HF0 : Hd (Fr [] w ((w.alloc (.cells #[.string a.q.name, .int .u16 a.q.ty, .int .u16 a.q.cl, .slice a.ra a.rn a.rc, .int .i64 a.rcode, .int .i64 a.rank, .int .u64 a.expire] 32)).alloc (.cells #[.string b.q.name, .int .u16 b.q.ty, .int .u16 b.q.cl, .slice b.ra b.rn b.rc, .int .i64 b.rcode, .int .i64 b.rank, .int .u64 b.expire] 32))) := Hd.mk (((Fr.refl [] w).alloc _).alloc _)
  go_enter Try.func28, Try.ntmps28
  cases hq : decide (a.q = b.q) with
  | false =>
    have hs : sameB ρ a b = false := by unfold sameB; simp only [hq, Bool.and_false, Bool.false_and, Bool.and_true, Bool.true_and]
    rw [hs]
    clear hs
    go_wp2
    go_ret
    exact ⟨rfl, HF0.out⟩
  | true =>
    by_cases hc : a.rcode = b.rcode
    · rw [hc] at HF0
      by_cases hk : a.rank = b.rank
      · rw [hk] at HF0
        by_cases hx : a.expire = b.expire
        · rw [hx] at HF0
          have hs : sameB ρ a b = decide (ρ a = ρ b) := by unfold sameB; rw [hq, decide_eq_true hc, decide_eq_true hk, decide_eq_true hx]; rfl
          rw [hs]
          clear hs
          go_wp2_with fail
          refine (req_calls (HA.out.fr HF0.out) (HB.out.fr HF0.out)).mono ?_
          rintro r w5 ⟨rfl, hf5⟩
          have HF5 := Hd.mk (HF0.out.trans hf5)
          clear hf5 hc hk hx
          go_wp2
          go_ret
          exact ⟨rfl, HF5.out⟩
        · have hs : sameB ρ a b = false := by unfold sameB; simp only [hq, decide_eq_true hc, decide_eq_true hk, decide_eq_false hx, Bool.and_false, Bool.false_and, Bool.and_true, Bool.true_and]
          rw [hs]
          clear hs
          go_wp2
          go_ret
          exact ⟨rfl, HF0.out⟩
      · have hs : sameB ρ a b = false := by unfold sameB; simp only [hq, decide_eq_true hc, decide_eq_false hk, Bool.and_false, Bool.false_and, Bool.and_true, Bool.true_and]
        rw [hs]
        clear hs
        go_wp2
        go_ret
        exact ⟨rfl, HF0.out⟩
    · have hs : sameB ρ a b = false := by unfold sameB; simp only [hq, decide_eq_false hc, Bool.and_false, Bool.false_and, Bool.and_true, Bool.true_and]
      rw [hs]
      clear hs
      go_wp2
      go_ret
      exact ⟨rfl, HF0.out⟩
end Go.Proofs.Ytbmejolmbfmdiaa
