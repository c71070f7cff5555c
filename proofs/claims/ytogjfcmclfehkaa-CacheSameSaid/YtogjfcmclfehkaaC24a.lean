import Derived.Test.YtogjfcmclfehkaaC23
import Derived.Test.YtogjfcmclfehkaaCR
namespace Go.Proofs.Ytogjfcmclfehkaa
open Go Go.RowKit Go.Proofs.MapL PPM Go.Proofs.YtogjfcmclfehkaaW.PrintWords

theorem CB.wr_all (C : CB) : ∀ z ∈ C.wr, z ∈ C.all := by
  intro z hz
  unfold CB.wr at hz
  unfold CB.all
  simp only [List.mem_cons, List.mem_append, List.mem_flatMap] at hz ⊢
  rcases hz with h | h | ⟨B, hB, h⟩
  · exact .inl h
  · exact .inr (.inr (.inl h))
  · exact .inr (.inr (.inr ⟨B, hB, B.wr_all z h⟩))
theorem CAt.step0 {W w w' : World} {C : CB} {hv : Value} {c : Cs} (h : CAt w C hv c) (hb : ∀ z ∈ C.wr, W.heap.size ≤ z) (hn : W.heap.size ≤ C.n0) (hW : Fr [] W w) (hf : Fr (C.wr ++ hv.ownBlock.toList) w w') : Fr [] W w' := by
  refine hW.weak hf fun x hx => ?_
  rcases List.mem_append.1 hx with hx | hx
  · exact .inr (hb x hx)
  · exact .inr (Nat.le_trans hn (h.hist.row.lt x (by simpa using hx)).1)
theorem CAt.box {w w' : World} {C : CB} {hv : Value} {c : Cs} (h : CAt w C hv c) {b T : Nat} {cs : List Value} (hB : Blk w b T cs) (hT : Tok T) (hf : Fr (C.wr ++ hv.ownBlock.toList) w w') : Blk w' b T cs := hB.noT hf (h.noW hT)
/-- A row of events is none of a cache's own blocks. -/
theorem CAt.wr_ev {w : World} {C : CB} {hv : Value} {c : Cs} (h : CAt w C hv c) {y : Nat} {cs : List Value} (hb : Blk w y 47 cs) : y ∉ C.wr := by
  intro hy
  unfold CB.wr at hy
  simp only [List.mem_cons, List.mem_append, List.mem_flatMap] at hy
  rcases hy with rfl | hy | ⟨B, hB, hy⟩
  · exact (h.blk.ne hb (by decide)) rfl
  · obtain ⟨i, hi⟩ := List.getElem?_of_mem hy
    have hil := (List.getElem?_eq_some_iff.1 hi).1
    obtain ⟨p, B, s, hp, hB, hs, -⟩ := h.at hil
    rw [hi] at hp; cases hp
    have k3 := h.pt i _ B s _ hi hB hs (List.getElem?_eq_getElem (by rw [h.wl]; exact hil))
    exact (k3.blk.ne hb (by decide)) rfl
  · obtain ⟨i, hi⟩ := List.getElem?_of_mem hB
    have hil : i < C.ps.length := by rw [← h.ok.len]; exact (List.getElem?_eq_some_iff.1 hi).1
    obtain ⟨p, B', s, hp, hB', hs, -⟩ := h.at hil
    rw [hi] at hB'; cases hB'
    have k3 := h.pt i p _ s _ hp hi hs (List.getElem?_eq_getElem (by rw [h.wl]; exact hil))
    exact blk_apart k3.sh hb (by decide) (by decide) (by decide) hy
theorem CAt.evrow {w w' : World} {C : CB} {hv : Value} {c : Cs} (h : CAt w C hv c) {base n : Nat} {v : Value} {xs : List Value} (hr : w.ownsRow base 47 20 v n xs) (hne : ∀ x, v.ownBlock = some x → hv.ownBlock ≠ some x) (hf : Fr (C.wr ++ hv.ownBlock.toList) w w') : w'.ownsRow base 47 20 v n xs := by
  refine own_fr hr hf fun k hk hx => ?_
  obtain ⟨cs, hb⟩ := own_kblk hr hk
  rcases List.mem_append.1 hx with hx | hx
  · exact h.wr_ev hb hx
  · exact hne k hk (by simpa using hx)
theorem CAt.uq {w : World} {C : CB} {hv : Value} {c : Cs} (h : CAt w C hv c) {i : Nat} (hi : i < C.ps.length) : Uq (ssAt c.ss i) ∧ (ssAt c.ss i).hand < (ssAt c.ss i).l.length := by
  obtain ⟨p, B, s, hp, hB, hs, hse, -⟩ := h.at hi
  have k3 := h.pt i p B s _ hp hB hs (List.getElem?_eq_getElem (by rw [h.wl]; exact hi))
  obtain ⟨tu, h3⟩ := k3.sh
  rw [← hse]
  exact ⟨h3.uq, k3.hand⟩
/-- One deed more, of whatever kind. -/
def histC (m : Nat) : Nat := m + 16
def Did1 (w : World) (C : CB) (hv : Value) (c : Cs) (d : Dd) (r : Ending) (w' : World) : Prop :=
  ∃ v hv' ss' h', r = .returned v ∧ CAt w' C hv' ⟨ss', noW C.ps.length, h'⟩ ∧ h'.length ≤ c.hist.length + 16 ∧ Fr (C.wr ++ hv.ownBlock.toList) w w'
theorem do_any1 {w : World} {C : CB} {hv : Value} {c : Cs} (hc : CAt w C hv c) (hw : c.who = noW C.ps.length) (hh : c.hist.length ≤ 900000) (d : Dd) (hnm : d.e.q.name.size ≤ 1000000000000000) (hte : TOk d.e.expire) (htn : TOk d.now) :
    Calls Try.prog 14 #[pV C.pc, d.v] w (Did1 w C hv c d) := by
  by_cases hk : 1 ≤ d.kind ∧ d.kind ≤ 4
  · refine (do_calls hc d hnm hte htn hk hw hh).mono ?_
    rintro r w' ⟨v, hv', ev, rfl, -, -, ht, -, hc', hf, -, -⟩
    refine ⟨v, hv', _, _, rfl, hc', ?_, hf⟩
    have h1 := congrArg List.length ht
    rw [tells_len, finE_len] at h1
    have := leftD_le (d := d) hc.ok.n1
    rw [List.length_append]; omega
  · refine (do_none (pV C.pc) d (.inr ⟨⟨_, rfl⟩, by omega⟩) w).mono ?_
    rintro r w' ⟨rfl, hf⟩
    refine ⟨_, hv, c.ss, c.hist, rfl, ?_, by omega, hf.mono (by simp)⟩
    have := hc.fr0 hf
    rw [← hw]; exact this
theorem evict_len (s : SS) (q : Qn) : (evictS s q).l.length = s.l.length := by
  unfold evictS
  split
  · simp [SS.at]
  · rfl
theorem evict_hand (s : SS) (q : Qn) : (evictS s q).hand = s.hand := by unfold evictS; split <;> rfl
/-- What is inserted behind its question's eviction is told, if it is live. -/
theorem one_pure {s : SS} (hU : Uq s) (hh : s.hand < s.l.length) (e : En) (now : Int) :
    (insR (evictS s e.q) e now).2.2 = (if liveB e.expire now then 0 else 4) ∧ (lookR (insR (evictS s e.q) e now).1 e.q now).2 = if liveB e.expire now then (e, true) else (zeroEn, false) := by
  have hU1 := evict_uq hU e.q
  have h1 : (evictS s e.q).ent e.q = none := by rw [evict_ent hU, if_pos rfl]
  cases hl : liveB e.expire now with
  | false =>
    rw [ins_dead hl, look_told, h1]
    exact ⟨rfl, rfl⟩
  | true =>
    obtain ⟨h2, -, -, h3⟩ := ins_new (by rw [evict_len, evict_hand]; exact hh) hU1 hl h1
    refine ⟨by rw [h2]; rfl, ?_⟩
    rw [look_told, h3, if_pos rfl]
    show (if liveB e.expire now then (e, true) else (zeroEn, false)) = _
    rw [hl]
end Go.Proofs.Ytogjfcmclfehkaa
