import Derived.Test.YtogjfcmclfehkaaCD
import Derived.Test.YtogjfcmclfehkaaCR
namespace Go.Proofs.Ytogjfcmclfehkaa
open Go Go.RowKit Go.Proofs.MapL PPM Go.Proofs.YtogjfcmclfehkaaW.PrintWords

theorem sum_le {l : List Nat} {b : Nat} (h : ∀ x ∈ l, x ≤ b) : l.sum ≤ l.length * b := by
  induction l with
  | nil => simp
  | cons a l ih =>
    have h1 := h a List.mem_cons_self
    have h2 := ih fun x hx => h x (List.mem_cons_of_mem _ hx)
    simp only [List.sum_cons, List.length_cons, Nat.add_mul]
    omega
def lenC (ss : List SS) : Nat := (ss.map fun s => s.all.length).sum
set_option maxRecDepth 100000 in
set_option maxHeartbeats 8000000 in
theorem clen_calls {w : World} {C : CB} {hv : Value} {c : Cs} (hc : CAt w C hv c) : Calls Try.prog 17 #[pV C.pc] w fun r w' => r = .returned (.int .i64 (lenC c.ss)) ∧ Fr [] w w' := by
  have HC := Hd.mk hc
  have HN := Hd.mk hc.ok.n1
  have c0 : w.cell? ⟨C.pc, 0, none⟩ = some (.slice (some ⟨C.gp, 0, none⟩) C.ps.length C.cap) := hc.blk.cell (i := 0) rfl
  have hbd : ∀ k, k ≤ C.ps.length → lenC (c.ss.take k) ≤ 1024 := fun k hk => by
    have h1 : ∀ x ∈ (c.ss.take k).map (fun s => s.all.length), x ≤ 64 := by
      intro x hx
      obtain ⟨s, hs, rfl⟩ := List.mem_map.1 hx
      obtain ⟨i, hi⟩ := List.getElem?_of_mem (List.mem_of_mem_take hs)
      have hil : i < C.ps.length := by rw [← hc.sl]; exact (List.getElem?_eq_some_iff.1 hi).1
      obtain ⟨p, B, s', hp, hB, hs', -⟩ := hc.at hil
      rw [hi] at hs'; cases hs'
      obtain ⟨tu, h3⟩ := (hc.pt i p B s _ hp hB hi (List.getElem?_eq_getElem (by rw [hc.wl]; exact hil))).sh
      have := h3.w.sl.len
      have := all_le s
      omega
    have h2 := sum_le h1
    have h3 := hc.ok.n1
    have h4 := hc.sl
    rw [List.length_map, List.length_take] at h2
    unfold lenC
    omega
  have HB := Hd.mk hbd
  clear hc hbd
  unfold pV
  go_enter Try.func17, Try.ntmps17
  go_wp2_with fail
  clear c0
  go_loopw [3, 14] (fun n i wr => ∃ j : Nat, j ≤ C.ps.length ∧ i = .int .i64 j ∧ n = .int .i64 (lenC (c.ss.take j)) ∧ Fr [] w wr) (fun _ i _ => C.ps.length - (intOf i).toNat)
  case atStart => exact ⟨0, Nat.zero_le _, rfl, rfl, Fr.refl _ _⟩
  case round =>
    obtain ⟨j, hj, rfl, rfl, hfr⟩ := hrel
    have HFR := Hd.mk hfr
    clear hfr
    by_cases hjn : j < C.ps.length
    · have hCr := HC.out.fr0 HFR.out
      obtain ⟨p, B, s, hp, hB, hs, -⟩ := hCr.at hjn
      have hpt := hCr.pt j p B s _ hp hB hs (List.getElem?_eq_getElem (by rw [hCr.wl]; exact hjn))
      obtain ⟨rs, hrow, hrc⟩ := hCr.row
      have e3 : wr.cell? ⟨C.gp, j, none⟩ = some (.pointer (some ⟨p, 0, none⟩)) := hrow.cell (hrc j p hp)
      have e4 : wr.cell? ⟨p, 0, none⟩ = some (.pointer (some ⟨B.p, 0, none⟩)) := hpt.blk.cell (i := 0) rfl
      have HSH := Hd.mk hpt.sh
      have hn16 := HN.out
      have hsum : lenC (c.ss.take (j + 1)) = lenC (c.ss.take j) + s.all.length := by
        unfold lenC
        rw [List.take_add_one, hs]
        simp
      have HSM := Hd.mk hsum
      have HX := Hd.mk (And.intro (HB.out j (by omega)) (HB.out (j + 1) (by omega)))
      clear hCr hp hB hs hpt hrow hrc hsum
      go_wp2_with fail
      obtain ⟨tu, hsh⟩ := HSH.out
      refine (shlen_calls hsh).mono ?_
      rintro r w2 ⟨rfl, hf2⟩
      have HF2 := Hd.mk (HFR.out.trans hf2)
      have h1 := HX.out.1
      have h2 := HX.out.2
      have h3 := HSM.out
      clear hf2 hsh e3 e4
      go_wp2
      go_roundw
      case rel => exact ⟨j + 1, by omega, by go_num, by rw [h3]; go_num, HF2.out⟩
      case measure => simp [intOf]; omega
    · have hje : j = C.ps.length := by omega
      subst hje
      go_wp2_with fail
      go_ret
      refine ⟨?_, HFR.out⟩
      have e : c.ss.take C.ps.length = c.ss := List.take_of_length_le (Nat.le_of_eq HC.out.sl)
      rw [e]
      rfl
end Go.Proofs.Ytogjfcmclfehkaa
namespace Go.Proofs.Ytogjfcmclfehkaa
open Go Go.RowKit Go.Proofs.MapL PPM Go.Proofs.YtogjfcmclfehkaaW.PrintWords

/-! The document's example. -/
def qA : Qn := ⟨⟨#[1, 97, 0]⟩, 1, 1, by decide⟩
def eA : En := ⟨qA, none, 0, 0, 0, 3, 9⟩
def dA : Dd := ⟨1, eA, 1⟩
def dB : Dd := ⟨2, eA, 1⟩
def sA : SS := doneS (newS 2) dA
def tA : Tell := doneT (newS 2) dA
def sB : SS := doneS sA dB
def tB : Tell := doneT sA dB
theorem hash_one (q : Qn) (hq : q.name.size ≤ 1000000000000000) : hashK q 1 = 0 := by
  have := hash_lt q hq 1 (by omega) (by omega)
  omega
theorem left_a : leftD dA 1 = [0] := by
  have := hash_one qA (by decide)
  unfold leftD; rw [if_neg (by decide)]; exact congrArg (· :: []) this
theorem left_b : leftD dB 1 = [0] := by
  have := hash_one qA (by decide)
  unfold leftD; rw [if_neg (by decide)]; exact congrArg (· :: []) this
def sh0 : PS := ⟨[newS 2], [none], [⟨dA, [0], false, []⟩, ⟨dB, [0], false, []⟩], []⟩
def sh1 : PS := ⟨[newS 2], [some 0], [⟨dA, [0], false, []⟩, ⟨dB, [0], false, []⟩], []⟩
def sh2 : PS := ⟨[sA], [some 0], [⟨dA, [0], true, [(0, tA)]⟩, ⟨dB, [0], false, []⟩], [(dA, 0, tA)]⟩
def sh3 : PS := ⟨[sA], [none], [⟨dA, [], false, [(0, tA)]⟩, ⟨dB, [0], false, []⟩], [(dA, 0, tA)]⟩
def sh4 : PS := ⟨[sA], [some 1], [⟨dA, [], false, [(0, tA)]⟩, ⟨dB, [0], false, []⟩], [(dA, 0, tA)]⟩
def sh5 : PS := ⟨[sB], [some 1], [⟨dA, [], false, [(0, tA)]⟩, ⟨dB, [0], true, [(0, tB)]⟩], [(dA, 0, tA), (dB, 0, tB)]⟩
def sh6 : PS := ⟨[sB], [none], [⟨dA, [], false, [(0, tA)]⟩, ⟨dB, [], false, [(0, tB)]⟩], [(dA, 0, tA), (dB, 0, tB)]⟩
theorem sh0_0 : sh0.step 0 = sh1 := rfl
theorem sh1_1 : sh1.step 1 = sh1 := rfl
theorem sh1_0 : sh1.step 0 = sh2 := rfl
theorem sh2_0 : sh2.step 0 = sh3 := rfl
theorem sh3_0 : sh3.step 0 = sh3 := rfl
theorem sh3_1 : sh3.step 1 = sh4 := rfl
theorem sh4_1 : sh4.step 1 = sh5 := rfl
theorem sh5_1 : sh5.step 1 = sh6 := rfl
theorem tB_is : tB.is = true := by kernel_rfl
theorem len6 : lenC sh6.ss = 1 := by kernel_rfl
set_option maxRecDepth 100000 in
set_option maxHeartbeats 8000000 in
theorem shown_law (w : World) : Calls Try.prog 7 #[] w fun r w' => r = .returned (.bool true) ∧ Fr [] w w' := by
  go_enter Try.func7, Try.ntmps7
  go_wp2_with fail
  refine (js_new 1 2 4 (by omega) (by omega) (by omega) (by omega) (by omega) w).mono ?_
  rintro r w1 ⟨C, rfl, hj, hn, hf⟩
  have HJ := Hd.mk hj
  have HF := Hd.mk hf
  have HN := Hd.mk hn
  clear hj hf hn
  unfold pV
  go_upto_region 3 with (fail)
  refine wp_name ?_; intro w2 hw2
  have hf2 := alloc_of hw2
  have hb2 := blk_of (T := 37) (c := [.string ⟨#[1, 97, 0]⟩, .int .u16 1, .int .u16 1, .slice none 0 0, .int .i64 0, .int .i64 3, .int .u64 9]) hw2
  clear hw2
  obtain ⟨be, h_be⟩ : ∃ p, w1.heap.size = p := ⟨_, rfl⟩
  rw [h_be] at hb2 ⊢
  have HB := Hd.mk hb2
  have HF := Hd.mk (HF.out.trans hf2)
  have HJ := Hd.mk (HJ.out.fr0 hf2)
  clear hb2 hf2 h_be
  obtain ⟨e0, e1, e2, e3, e4, e5, e6, ef⟩ := HB.out.cells7
  go_wp2_with fail
  refine (js_begin HJ.out dA (by decide) ⟨by decide, by decide⟩ ⟨by decide, by decide⟩ ⟨by decide, by decide⟩).mono ?_
  rintro r w3 ⟨pa, rfl, hj, hf⟩
  have HB := Hd.mk (HB.out.fr hf (by simp))
  have HF := Hd.mk (HF.out.trans hf)
  have HJ := Hd.mk hj
  clear e0 e1 e2 e3 e4 e5 e6 ef hj hf
  obtain ⟨e0, e1, e2, e3, e4, e5, e6, ef⟩ := HB.out.cells7
  unfold pV
  go_wp2_with fail
  refine (js_begin HJ.out dB (by decide) ⟨by decide, by decide⟩ ⟨by decide, by decide⟩ ⟨by decide, by decide⟩).mono ?_
  rintro r w4 ⟨pb, rfl, hj, hf⟩
  have HF := Hd.mk (HF.out.trans hf)
  have hx : JsAt w.heap.size w4 C sh0 [pa, pb] := by
    have e1 : leftD dA C.ps.length = [0] := by rw [HN.out]; exact left_a
    have e2 : leftD dB C.ps.length = [0] := by rw [HN.out]; exact left_b
    rw [e1, e2] at hj
    exact hj
  have HJ := Hd.mk hx
  clear e0 e1 e2 e3 e4 e5 e6 ef hj hf hx
  unfold pV
  go_wp2_with fail
  refine (js_step (k := 0) HJ.out rfl (by decide)).mono ?_
  rintro r wn ⟨rfl, hj, hf⟩
  have HF := Hd.mk (hf.fr HF.out (Nat.le_refl _))
  rw [sh0_0] at hj ⊢
  have HJ := Hd.mk hj
  clear hj hf
  go_wp2_with fail
  refine (js_step (k := 1) HJ.out rfl (by decide)).mono ?_
  rintro r wn ⟨rfl, hj, hf⟩
  have HF := Hd.mk (hf.fr HF.out (Nat.le_refl _))
  rw [sh1_1] at hj ⊢
  have HJ := Hd.mk hj
  clear hj hf
  go_wp2_with fail
  refine (js_step (k := 1) HJ.out rfl (by decide)).mono ?_
  rintro r wn ⟨rfl, hj, hf⟩
  have HF := Hd.mk (hf.fr HF.out (Nat.le_refl _))
  rw [sh1_1] at hj ⊢
  have HJ := Hd.mk hj
  clear hj hf
  go_wp2_with fail
  refine (js_events (k := 1) (y := ⟨dB, [0], false, []⟩) HJ.out rfl rfl (by decide)).mono ?_
  rintro r wn ⟨v0, ev0, rfl, ho, ht, -, hf⟩
  have hl0 : ev0.length = 0 := by have := congrArg List.length ht; rw [tells_len] at this; exact this
  have HF := Hd.mk (HF.out.trans hf)
  have HJ := Hd.mk (HJ.out.fr0 hf)
  obtain ⟨A0, c0, hv0⟩ : ∃ A c, v0 = .slice A 0 c := by
    rcases ho.2 with ⟨e, -⟩ | ⟨g, cap, cur, e, -⟩
    · exact ⟨_, _, e⟩
    · exact ⟨_, cap, by rw [e, hl0]⟩
  subst hv0
  clear ho ht hf hl0
  go_wp2_with fail
  refine wp_loop_rounds 4 ?_
  rw [rounds_succ]
  go_wp2_with fail
  refine (js_step (k := 0) HJ.out rfl (by decide)).mono ?_
  rintro r wn ⟨rfl, hj, hf⟩
  have HF := Hd.mk (hf.fr HF.out (Nat.le_refl _))
  rw [sh1_0] at hj ⊢
  have HJ := Hd.mk hj
  clear hj hf
  go_wp2
  rw [rounds_succ]
  go_wp2_with fail
  refine (js_step (k := 0) HJ.out rfl (by decide)).mono ?_
  rintro r wn ⟨rfl, hj, hf⟩
  have HF := Hd.mk (hf.fr HF.out (Nat.le_refl _))
  rw [sh2_0] at hj ⊢
  have HJ := Hd.mk hj
  clear hj hf
  go_wp2
  rw [rounds_succ]
  go_wp2_with fail
  refine (js_step (k := 0) HJ.out rfl (by decide)).mono ?_
  rintro r wn ⟨rfl, hj, hf⟩
  have HF := Hd.mk (hf.fr HF.out (Nat.le_refl _))
  rw [sh3_0] at hj ⊢
  have HJ := Hd.mk hj
  clear hj hf
  go_wp2
  rw [rounds_succ]
  go_wp2_with fail
  refine wp_loop_rounds 4 ?_
  rw [rounds_succ]
  go_wp2_with fail
  refine (js_step (k := 1) HJ.out rfl (by decide)).mono ?_
  rintro r wn ⟨rfl, hj, hf⟩
  have HF := Hd.mk (hf.fr HF.out (Nat.le_refl _))
  rw [sh3_1] at hj ⊢
  have HJ := Hd.mk hj
  clear hj hf
  go_wp2
  rw [rounds_succ]
  go_wp2_with fail
  refine (js_step (k := 1) HJ.out rfl (by decide)).mono ?_
  rintro r wn ⟨rfl, hj, hf⟩
  have HF := Hd.mk (hf.fr HF.out (Nat.le_refl _))
  rw [sh4_1] at hj ⊢
  have HJ := Hd.mk hj
  clear hj hf
  go_wp2
  rw [rounds_succ]
  go_wp2_with fail
  refine (js_step (k := 1) HJ.out rfl (by decide)).mono ?_
  rintro r wn ⟨rfl, hj, hf⟩
  have HF := Hd.mk (hf.fr HF.out (Nat.le_refl _))
  rw [sh5_1] at hj ⊢
  have HJ := Hd.mk hj
  clear hj hf
  go_wp2
  rw [rounds_succ]
  go_wp2_with fail
  refine (js_events (k := 1) (y := ⟨dB, [], false, [(0, tB)]⟩) HJ.out rfl rfl (by decide)).mono ?_
  rintro r wn ⟨v1, ev1, rfl, ho, ht, -, hf⟩
  have hl1 : ev1.length = 1 := by have := congrArg List.length ht; rw [tells_len] at this; exact this
  obtain ⟨ev, rfl⟩ : ∃ e, ev1 = [e] := List.length_eq_one_iff.1 hl1
  have hti : ev.t = tB := by simp only [tells, List.map_cons, List.map_nil, List.cons.injEq, and_true, Prod.mk.injEq] at ht; exact ht.2
  have HF := Hd.mk (HF.out.trans hf)
  have HJ := Hd.mk (HJ.out.fr0 hf)
  obtain ⟨g, cg, hv1, -, -⟩ := own_form ho (by simp)
  subst hv1
  have HO := Hd.mk ho
  have HTI := Hd.mk hti
  have k0 : wn.cell? ⟨g, 17, none⟩ = some (.bool true) := by
    have h1 := own_cells ho 17 (.bool ev.t.is) rfl
    rw [add_at, hti, tB_is] at h1
    simpa using h1
  clear ho ht hf hl1 hti
  simp only [List.length_singleton, Int.ofNat_one, Int.cast_ofNat_Int]
  go_wp2_with fail
  have hcl : Calls Try.prog 17 #[pV C.pc] wn fun r w' => r = .returned (.int .i64 1) ∧ Fr [] wn w' := by
    obtain ⟨hv, c, L, h⟩ := HJ.out
    have h2 := clen_calls h.ca
    have e : lenC c.ss = 1 := by rw [h.ss]; exact len6
    rw [e] at h2
    exact h2
  unfold pV at hcl
  refine hcl.mono ?_
  rintro r wm ⟨rfl, hf⟩
  have HF := Hd.mk (HF.out.trans hf)
  have HJ := Hd.mk (HJ.out.fr0 hf)
  clear hf hcl k0
  go_wp2_with fail
  have hhc := js_history HJ.out (by decide)
  unfold pV at hhc
  refine hhc.mono ?_
  rintro r wk ⟨v2, ev2, rfl, ho, ht, hf⟩
  have hl2 : ev2.length = 2 := by have := congrArg List.length ht; rw [List.length_map] at this; exact this
  obtain ⟨g2, cg2, hv2, -, -⟩ := own_form ho (by omega)
  rw [hl2] at hv2
  subst hv2
  have HF := Hd.mk (HF.out.trans hf)
  clear ho ht hf hl2 hhc
  go_wp2
  go_ret
  exact ⟨rfl, HF.out⟩
end Go.Proofs.Ytogjfcmclfehkaa
