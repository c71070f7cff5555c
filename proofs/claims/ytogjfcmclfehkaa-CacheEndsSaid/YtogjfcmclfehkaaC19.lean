import Derived.Test.YtogjfcmclfehkaaCE
import Derived.Test.YtogjfcmclfehkaaC18
namespace Go.Proofs.Ytogjfcmclfehkaa
open Go Go.RowKit Go.Proofs.MapL PPM Go.Proofs.YtogjfcmclfehkaaW.PrintWords

/-! ### Steps of the machine, told -/
section
variable {x : PS} {k i m : Nat} {j : PJ} {r : List Nat}
theorem step_fin_eq (hj : x.js[k]? = some j) (hl : j.left = []) : x.step k = x := by unfold PS.step; rw [hj]; simp only [hl]
theorem step_lock_eq (hj : x.js[k]? = some j) (hl : j.left = i :: r) (hw : x.who[i]? = some none) : x.step k = { x with who := x.who.set i (some k) } := by
  unfold PS.step; rw [hj]; simp only [hl, hw]
theorem step_wait_eq (hj : x.js[k]? = some j) (hl : j.left = i :: r) (hw : x.who[i]? = some (some m)) (hm : m ≠ k) : x.step k = x := by
  unfold PS.step; rw [hj]; simp only [hl, hw, if_neg hm]
theorem step_do_eq (hj : x.js[k]? = some j) (hl : j.left = i :: r) (hw : x.who[i]? = some (some k)) (hd : j.did = false) :
    x.step k = { ss := x.ss.set i (doneS (ssAt x.ss i) j.d), who := x.who, js := x.js.set k { j with did := true, ev := j.ev ++ [(i, doneT (ssAt x.ss i) j.d)] }, hist := x.hist ++ [(j.d, i, doneT (ssAt x.ss i) j.d)] } := by
  unfold PS.step; rw [hj]; simp only [hl, hw, hd, if_true, Bool.false_eq_true, if_false]
theorem step_free_eq (hj : x.js[k]? = some j) (hl : j.left = i :: r) (hw : x.who[i]? = some (some k)) (hd : j.did = true) :
    x.step k = { x with who := x.who.set i none, js := x.js.set k { j with left := r, did := false } } := by
  unfold PS.step; rw [hj]; simp only [hl, hw, hd, if_true]
end
theorem step_hist (x : PS) (k : Nat) : (x.step k).hist.length ≤ x.hist.length + 1 := by
  unfold PS.step
  split
  · omega
  · split
    · omega
    · split
      · exact Nat.le_succ _
      · split
        · split
          · exact Nat.le_succ _
          · simp
        · omega
      · omega
def itS (x : PS) (k : Nat) : Nat → PS
  | 0 => x
  | n + 1 => (itS x k n).step k
theorem itS_hist (x : PS) (k : Nat) : ∀ n, (itS x k n).hist.length ≤ x.hist.length + n := by
  intro n
  induction n with
  | zero => exact Nat.le_refl _
  | succ n ih => have := step_hist (itS x k n) k; unfold itS; omega
theorem itS_stay {x : PS} {k : Nat} (h : x.step k = x) : ∀ n, itS x k n = x := by
  intro n
  induction n with
  | zero => rfl
  | succ n ih => unfold itS; rw [ih, h]
/-! ### A deed to its end -/
section
variable {b0 : Nat} {w : World} {C : CB} {x : PS} {ps : List Nat}
theorem JsX.keep {hv : Value} {c : Cs} {L : List Jb} (h : JsX b0 w C x ps hv c L) {j' : Jb} (hm : j' ∈ L) {S : List Nat} {w' : World} (hf : Fr S w w')
    (hS : ∀ y ∈ S, y ∈ C.wr ∨ hv.ownBlock = some y) : JAt w' C j' := by
  have hj' := h.job j' hm
  obtain ⟨m, hm⟩ := List.getElem?_of_mem hm
  have hnt : ∀ T, Tok T → NoT w S T := fun T hT => by
    intro y hy cs hbl
    rcases hS y hy with h1 | h1
    · exact h.ca.noW hT y (List.mem_append_left _ h1) cs hbl
    · exact h.ca.noW hT y (List.mem_append_right _ (by simpa using h1)) cs hbl
  have hwr : ∀ y cs T, Blk w y T cs → (T = 66 ∨ T = 47) → y ∉ C.wr := by
    intro y cs T hb hT hy
    unfold CB.wr at hy
    simp only [List.mem_cons, List.mem_append, List.mem_flatMap] at hy
    rcases hy with rfl | hy | ⟨B, hB, hy⟩
    · exact (h.ca.blk.ne hb (by rcases hT with rfl | rfl <;> decide)) rfl
    · obtain ⟨i, hi⟩ := List.getElem?_of_mem hy
      have hil := (List.getElem?_eq_some_iff.1 hi).1
      obtain ⟨p, B, s, hp, hB, hs, -⟩ := h.ca.at hil
      rw [hi] at hp; cases hp
      have k3 := h.ca.pt i _ B s _ hi hB hs (List.getElem?_eq_getElem (by rw [h.ca.wl]; exact hil))
      exact (k3.blk.ne hb (by rcases hT with rfl | rfl <;> decide)) rfl
    · obtain ⟨i, hi⟩ := List.getElem?_of_mem hB
      have hil : i < C.ps.length := by rw [← h.ca.ok.len]; exact (List.getElem?_eq_some_iff.1 hi).1
      obtain ⟨p, B', s, hp, hB', hs, -⟩ := h.ca.at hil
      rw [hi] at hB'; cases hB'
      have k3 := h.ca.pt i p _ s _ hp hi hs (List.getElem?_eq_getElem (by rw [h.ca.wl]; exact hil))
      exact blk_apart k3.sh hb (by rcases hT with rfl | rfl <;> decide) (by rcases hT with rfl | rfl <;> decide) (by rcases hT with rfl | rfl <;> decide) hy
  refine hj'.fr hf (fun hy => ?_) (hnt _ (by unfold Tok; decide)) (hnt _ (by unfold Tok; decide)) fun y hy hyS => ?_
  · rcases hS _ hy with h1 | h1
    · exact hwr _ _ _ hj'.blk (.inl rfl) h1
    · obtain ⟨cs', hc'⟩ := own_kblk h.ca.hist.row h1
      exact (hc'.ne hj'.blk (by decide)) rfl
  · obtain ⟨cs', hc'⟩ := own_kblk hj'.ev.row hy
    rcases hS _ hyS with h1 | h1
    · exact hwr _ _ _ hc' (.inr rfl) h1
    · exact (h.ow m j' hm y hy).1 h1
theorem noW_map (n : Nat) (f : Nat → Nat) : (noW n).map (Option.map f) = noW n := by unfold noW; rw [List.map_replicate]; rfl
theorem js_do (h : JsAt b0 w C x ps) (hw : x.who = noW C.ps.length) (d : Dd) (hnm : d.e.q.name.size ≤ 1000000000000000) (hte : TOk d.e.expire) (htn : TOk d.now) (hk : 1 ≤ d.kind ∧ d.kind ≤ 4) (hh : x.hist.length ≤ 900000) :
    Calls Try.prog 14 #[pV C.pc, d.v] w fun r w' => ∃ (v : Value) (ev : List Ev), r = .returned v ∧ w'.ownsRow w.heap.size 47 20 v ev.length (ev.flatMap Ev.c) ∧ tells ev = finE d x.ss (leftD d C.ps.length) ∧ (∀ e ∈ ev, e.d = d) ∧
      JsAt b0 w' C { ss := finS d x.ss (leftD d C.ps.length), who := x.who, js := x.js, hist := x.hist ++ ev.map Ev.tr } ps ∧ FrN b0 w w' := by
  obtain ⟨hv, c, L, h⟩ := h
  have hcw : c.who = noW C.ps.length := by rw [h.who, hw, noW_map]
  have hcl : c.hist.length ≤ 900000 := by rw [← h.hist, List.length_map] at hh; exact hh
  refine (do_calls h.ca d hnm hte htn hk hcw hcl).mono ?_
  rintro r w' ⟨v, hv', ev, rfl, hown, -, hte2, hed, hc', hf, ho1, ho2⟩
  rw [h.ss] at hte2 hc'
  have hS : ∀ y ∈ C.wr ++ hv.ownBlock.toList, y ∈ C.wr ∨ hv.ownBlock = some y := fun y hy => by
    rcases List.mem_append.1 hy with hy | hy
    · exact .inl hy
    · exact .inr (by simpa using hy)
  refine ⟨v, ev, rfl, hown, hte2, hed, ⟨hv', _, L, ⟨hc', h.pe, h.ln, rfl, ?_, h.wl, ?_, fun j hj => h.keep hj hf hS, h.pj, h.jd, fun j hj => ?_, fun k j hk b hb => ⟨fun h2 => ?_, (h.ow k j hk b hb).2⟩, h.nd, h.b⟩⟩, ⟨_, hf, fun k hk => ?_, fun T hT => h.ca.noW hT⟩⟩
  · show noW C.ps.length = x.who.map _
    rw [hw, noW_map]
  · show (c.hist ++ ev).map Ev.tr = _
    rw [List.map_append, h.hist]
  · show _ ≤ (c.hist ++ ev).length
    have := h.el j hj
    rw [List.length_append]; omega
  · rcases ho1 b h2 with h3 | h3
    · exact (h.ow k j hk b hb).1 h3
    · have := ((h.job j (List.mem_of_getElem? hk)).ev.row.lt b hb).2
      omega
  · rcases List.mem_append.1 hk with hk | hk
    · exact h.b.1 k hk
    · have h4 := (h.ca.hist.row.lt k (by simpa using hk)).1
      have := h.b.2
      omega
theorem js_locked (h : JsAt b0 w C x ps) (d : Dd) (hnm : d.e.q.name.size ≤ 1000000000000000) (hte : TOk d.e.expire) (htn : TOk d.now) (hk : 1 ≤ d.kind ∧ d.kind ≤ 4) {i m : Nat} (hi : i ∈ leftD d C.ps.length) (hw : x.who[i]? = some (some m)) :
    Calls Try.prog 14 #[pV C.pc, d.v] w fun r w' => r = .returned (.slice none 0 0) ∧ Fr [] w w' := by
  obtain ⟨hv, c, L, h⟩ := h
  refine do_locked h.ca d hnm hte htn hk ?_
  rw [List.any_eq_true]
  refine ⟨i, hi, ?_⟩
  unfold heldB
  rw [who_at h.who i, hw]
  rfl
end
theorem set_self {α : Type} {l : List α} {i : Nat} {a : α} (h : l[i]? = some a) : l.set i a = l := by
  apply List.ext_getElem?
  intro k
  rw [List.getElem?_set]
  split
  · rename_i e
    subst e
    rw [if_pos (List.getElem?_eq_some_iff.1 h).1, h]
  · rfl
/-! ### Two jobs at five shards -/
def wt0 (dA dB : Dd) (hE hO : Nat) : PS := ⟨List.replicate 5 (newS 3), noW 5, [⟨dA, [hE], false, []⟩, ⟨dB, [hO], false, []⟩], []⟩
def wt1 (dA dB : Dd) (hE hO : Nat) : PS := { wt0 dA dB hE hO with who := (noW 5).set hE (some 0) }
structure W4 (x : PS) (dA : Dd) (hE hO : Nat) : Prop where
  who : x.who = (noW 5).set hE (some 0)
  j0 : x.js[0]? = some ⟨dA, [hE], false, []⟩
  j1 : ∃ y, x.js[1]? = some y ∧ y.ev.length = if hE = hO then 0 else 1
  fin : x.fin 1 = decide (hE ≠ hO)
  hist : x.hist.length ≤ 1
section
variable {dA dB : Dd} {hE hO : Nat}
theorem wt0_0 (h : hE < 5) : (wt0 dA dB hE hO).step 0 = wt1 dA dB hE hO := step_lock_eq (j := ⟨dA, [hE], false, []⟩) rfl rfl (noW_get h)
theorem whoE (h : hE < 5) : ((noW 5).set hE (some 0))[hE]? = some (some 0) := by rw [List.getElem?_set_self (by simpa [noW] using h)]
theorem waits (h1 : hE < 5) (h2 : hO < 5) (m : Nat) : W4 (itS (wt1 dA dB hE hO) 1 (m + 3)) dA hE hO := by
  by_cases he : hE = hO
  · subst he
    have hst : (wt1 dA dB hE hE).step 1 = wt1 dA dB hE hE := step_wait_eq (j := ⟨dB, [hE], false, []⟩) rfl rfl (whoE h1) (by omega)
    rw [itS_stay hst]
    exact ⟨rfl, rfl, ⟨_, rfl, by rw [if_pos rfl]; rfl⟩, by rw [decide_eq_false (fun h => h rfl)]; rfl, Nat.zero_le _⟩
  · have hn : ((noW 5).set hE (some 0))[hO]? = some none := by rw [List.getElem?_set_ne he]; exact noW_get h2
    have e1 : (wt1 dA dB hE hO).step 1 = { wt1 dA dB hE hO with who := ((noW 5).set hE (some 0)).set hO (some 1) } := step_lock_eq (j := ⟨dB, [hO], false, []⟩) rfl rfl hn
    have hl : hO < ((noW 5).set hE (some 0)).length := by simpa [noW] using h2
    have hw1 : (((noW 5).set hE (some 0)).set hO (some 1))[hO]? = some (some 1) := List.getElem?_set_self hl
    obtain ⟨T, hT⟩ : ∃ T, doneT (ssAt (List.replicate 5 (newS 3)) hO) dB = T := ⟨_, rfl⟩
    obtain ⟨Z, hZ⟩ : ∃ Z, (List.replicate 5 (newS 3)).set hO (doneS (ssAt (List.replicate 5 (newS 3)) hO) dB) = Z := ⟨_, rfl⟩
    have e2 : PS.step { wt1 dA dB hE hO with who := ((noW 5).set hE (some 0)).set hO (some 1) } 1 = ⟨Z, ((noW 5).set hE (some 0)).set hO (some 1), [⟨dA, [hE], false, []⟩, ⟨dB, [hO], true, [(hO, T)]⟩], [(dB, hO, T)]⟩ := by
      rw [step_do_eq (j := ⟨dB, [hO], false, []⟩) rfl rfl hw1 rfl, ← hT, ← hZ]; rfl
    have e3 : PS.step ⟨Z, ((noW 5).set hE (some 0)).set hO (some 1), [⟨dA, [hE], false, []⟩, ⟨dB, [hO], true, [(hO, T)]⟩], [(dB, hO, T)]⟩ 1 = ⟨Z, (noW 5).set hE (some 0), [⟨dA, [hE], false, []⟩, ⟨dB, [], false, [(hO, T)]⟩], [(dB, hO, T)]⟩ := by
      rw [step_free_eq (j := ⟨dB, [hO], true, [(hO, T)]⟩) rfl rfl hw1 rfl]
      dsimp only
      rw [List.set_set, set_self hn]
      rfl
    have e4 : PS.step ⟨Z, (noW 5).set hE (some 0), [⟨dA, [hE], false, []⟩, ⟨dB, [], false, [(hO, T)]⟩], [(dB, hO, T)]⟩ 1 = ⟨Z, (noW 5).set hE (some 0), [⟨dA, [hE], false, []⟩, ⟨dB, [], false, [(hO, T)]⟩], [(dB, hO, T)]⟩ := step_fin_eq (j := ⟨dB, [], false, [(hO, T)]⟩) rfl rfl
    have e5 : ∀ m, itS (wt1 dA dB hE hO) 1 (m + 3) = ⟨Z, (noW 5).set hE (some 0), [⟨dA, [hE], false, []⟩, ⟨dB, [], false, [(hO, T)]⟩], [(dB, hO, T)]⟩ := by
      intro m
      induction m with
      | zero => show (((wt1 dA dB hE hO).step 1).step 1).step 1 = _; rw [e1, e2, e3]
      | succ m ih =>
        show (itS (wt1 dA dB hE hO) 1 (m + 3)).step 1 = _
        rw [ih, e4]
    rw [e5 m]
    exact ⟨rfl, rfl, ⟨_, rfl, by rw [if_neg he]; rfl⟩, by rw [decide_eq_true he]; rfl, Nat.le_refl _⟩
theorem W4.next {x : PS} (h1 : hE < 5) (h : W4 x dA hE hO) : (x.step 0).hist.length ≤ 2 ∧ ((x.step 0).step 0).who = noW 5 ∧ (∃ y, ((x.step 0).step 0).js[0]? = some y ∧ y.ev.length = 1) ∧ ((x.step 0).step 0).hist.length ≤ 3 := by
  have hw : x.who[hE]? = some (some 0) := by rw [h.who]; exact whoE h1
  have h0 := h.hist
  have a1 := step_hist x 0
  have a2 := step_hist (x.step 0) 0
  have hl : 0 < x.js.length := (List.getElem?_eq_some_iff.1 h.j0).1
  have e1 := step_do_eq h.j0 rfl hw rfl
  obtain ⟨T, hT⟩ : ∃ T, doneT (ssAt x.ss hE) dA = T := ⟨_, rfl⟩
  have hj1 : (x.step 0).js[0]? = some ⟨dA, [hE], true, [(hE, T)]⟩ := by
    rw [e1, ← hT]
    exact List.getElem?_set_self hl
  have hw1 : (x.step 0).who[hE]? = some (some 0) := by rw [e1]; exact hw
  have e2 := step_free_eq hj1 rfl hw1 rfl
  refine ⟨by omega, ?_, ⟨⟨dA, [], false, [(hE, T)]⟩, ?_, rfl⟩, by omega⟩
  · rw [e2, e1]
    show x.who.set hE none = _
    rw [h.who]; exact noW_back
  · rw [e2]
    exact List.getElem?_set_self (List.getElem?_eq_some_iff.1 hj1).1
end
end Go.Proofs.Ytogjfcmclfehkaa
