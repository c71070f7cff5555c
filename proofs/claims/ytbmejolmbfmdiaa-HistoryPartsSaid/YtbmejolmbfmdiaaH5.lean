import Derived.Test.YtbmejolmbfmdiaaH4
namespace Go.Proofs.Ytbmejolmbfmdiaa
open Go Go.RowKit Go.Lib Go.Proofs.MapL

def vB (b : Bool) : Value := .bool b
theorem zeroB (w : World) : (zeroValue 4).run Try.prog w = .ok (.bool false) w := by kernel_rfl
/-- Questions are unlike, and all so. -/
def eachB (p : Qn → Bool) (l : List Qn) : Bool := decide l.Nodup && l.all p
/-- A map of what was seen. -/
structure SeenIs (E : List (Qn × Bool)) (m : List Qn) : Prop where
  get : ∀ q, findL E q = if q ∈ m then some true else none
  len : E.length ≤ m.length
theorem seen_v {E : List (Qn × Bool)} {m : List Qn} (h : SeenIs E m) (q : Qn) : ((findL E q).map vB).getD (.bool false) = .bool (decide (q ∈ m)) := by
  rw [h.get]
  by_cases hq : q ∈ m
  · rw [if_pos hq, decide_eq_true hq]; rfl
  · rw [if_neg hq, decide_eq_false hq]; rfl
theorem SeenIs.put {E : List (Qn × Bool)} {m : List Qn} (h : SeenIs E m) (q : Qn) : SeenIs (putL E q true) (m ++ [q]) := by
  refine ⟨fun x => ?_, ?_⟩
  · rw [find_put, h.get]
    by_cases hx : x = q
    · subst hx; simp
    · rw [if_neg hx]
      by_cases hm : x ∈ m
      · rw [if_pos hm, if_pos (List.mem_append_left _ hm)]
      · rw [if_neg hm, if_neg (by simp [hm, hx])]
  · have h1 := h.len
    rw [put_len, List.length_append, List.length_singleton]
    split <;> omega
def okTo (p : Qn → Bool) (l : List Qn) (k : Nat) : Prop := (l.take k).Nodup ∧ ∀ q ∈ l.take k, p q = true
theorem okTo_zero (p : Qn → Bool) (l : List Qn) : okTo p l 0 := ⟨by simp, by simp⟩
theorem each_all {p : Qn → Bool} {l : List Qn} (h : okTo p l l.length) : eachB p l = true := by
  obtain ⟨h1, h2⟩ := h
  rw [List.take_length] at h1 h2
  unfold eachB
  rw [decide_eq_true h1, List.all_eq_true.2 h2]
  rfl
theorem each_twice {p : Qn → Bool} {l : List Qn} {k : Nat} (hk : k < l.length) {q : Qn} (hq : l[k] = q) (h : q ∈ l.take k) : eachB p l = false := by
  unfold eachB
  rw [decide_eq_false, Bool.false_and]
  intro hn
  subst hq
  obtain ⟨j, hj, he⟩ := List.getElem_of_mem h
  rw [List.length_take] at hj
  rw [List.getElem_take] at he
  exact (List.pairwise_iff_getElem.1 hn j k (by omega) hk (by omega)) he
theorem each_no {p : Qn → Bool} {l : List Qn} {k : Nat} (hk : k < l.length) {q : Qn} (hq : l[k] = q) (h : p q = false) : eachB p l = false := by
  unfold eachB
  rw [Bool.and_eq_false_iff]
  refine .inr ?_
  rw [List.all_eq_false]
  exact ⟨q, by rw [← hq]; exact List.getElem_mem hk, by rw [h]; simp⟩
theorem okTo.next {p : Qn → Bool} {l : List Qn} {k : Nat} (h : okTo p l k) (hk : k < l.length) {q : Qn} (hq : l[k] = q) (hn : q ∉ l.take k) (hp : p q = true) : okTo p l (k + 1) := by
  obtain ⟨h1, h2⟩ := h
  have e : l.take (k + 1) = l.take k ++ [q] := by rw [List.take_succ_eq_append_getElem hk, hq]
  unfold okTo
  rw [e]
  refine ⟨?_, ?_⟩
  · rw [List.nodup_append]
    exact ⟨h1, by simp, fun a ha b hb => by simp only [List.mem_singleton] at hb; subst hb; intro he; subst he; exact hn ha⟩
  · intro x hx
    rcases List.mem_append.1 hx with hx | hx
    · exact h2 x hx
    · simp only [List.mem_singleton] at hx; subst hx; exact hp
set_option maxRecDepth 100000 in
set_option maxHeartbeats 8000000 in
theorem each34_calls {w : World} {P : Pt} {s : Ps} (h : PtAt w P s) {c1 c2 : Nat} {now : Int} (h1 : Blk w c1 52 [.pointer (some ⟨P.pp, 0, none⟩)]) (h2 : Blk w c2 30 [.int .u64 now]) {A : Option Addr} {n c : Nat} {l : List Qn} (hs : SlIs Qn.c 3 w A n l) : Calls Try.prog 31 #[.slice A n c, .func (.func 34) #[] #[.pointer (some ⟨c1, 0, none⟩), .pointer (some ⟨c2, 0, none⟩)]] w fun r w' => r = .returned (.bool (eachB (goB s now) l)) ∧ Fr [] w w' := by
  obtain ⟨rfl, hle, hrow⟩ := hs
  have H := Hd.mk h
  have H1 := Hd.mk h1
  have H2 := Hd.mk h2
  have HR := Hd.mk hrow
  clear h h1 h2 hrow
  have hle' : (l.length : Int) ≤ 9223372036854775807 := by omega
  have hmm := @run_makeMap Try.prog
  go_enter Try.func31, Try.ntmps31
  go_upto_region 2 with (fail)
  clear hmm
  refine wp_name ?_; intro w1 hw1
  have hm1 : mapIs Qn.lit vB Try.prog 28 w1 w.heap.size [] := by rw [hw1]; exact mapIs_made _ _ _ _ _
  have hf1 : Fr [] w w1 := by rw [hw1]; exact (Fr.refl [] w).alloc _
  clear hw1
  obtain ⟨bm, hbm⟩ : ∃ p, w.heap.size = p := ⟨_, rfl⟩
  rw [hbm] at hm1 ⊢
  have HBM := Hd.mk hbm
  have HM1 := Hd.mk hm1
  have HF1 := Hd.mk hf1
  clear hm1 hf1 hbm
  go_wp2_with fail
  go_loopg [11] l.length (fun g v wr => ∃ k E, k ≤ l.length ∧ l.length - k ≤ g ∧ v = .int .i64 (k : Nat) ∧ Hd (mapIs Qn.lit vB Try.prog 28 wr bm E ∧ SeenIs E (l.take k) ∧ okTo (goB s now) l k ∧ Fr [] w wr))
  case atStart => exact ⟨0, [], Nat.zero_le _, by omega, rfl, ⟨HM1.out, ⟨fun q => by simp [findL], by simp⟩, okTo_zero _ _, HF1.out⟩⟩
  case round =>
    obtain ⟨k, E, hk, hg, rfl, HREL⟩ := hrel
    by_cases hlt : k < l.length
    · obtain ⟨b, off, rfl, hb, hc⟩ := HR.out (by omega)
      have hfr := HREL.out.2.2.2
      have e0 : wr.cell? ⟨b, off + k * 3, none⟩ = some (.string (l[k]).name) := hfr.cell (hc k hlt 0 _ rfl) (by simp)
      have e1 : wr.cell? ⟨b, off + k * 3 + 1, none⟩ = some (.int .u16 (l[k]).ty) := hfr.cell (hc k hlt 1 _ rfl) (by simp)
      have e2 : wr.cell? ⟨b, off + k * 3 + 2, none⟩ = some (.int .u16 (l[k]).cl) := hfr.cell (hc k hlt 2 _ rfl) (by simp)
      clear hc hb hfr
      obtain ⟨q, hq⟩ : ∃ q, l[k] = q := ⟨_, rfl⟩
      rw [hq] at e0 e1 e2
      have HQ := Hd.mk hq
      clear hq
      have hltI : (k : Int) < (l.length : Int) := by omega
      go_upto_region 5 with (fail)
      clear e0 e1 e2
      refine wp_name ?_; intro w2 hw2
      have hf2 := alloc_of hw2
      have hb2 := blk_of (T := 28) (c := [.string q.name, .int .u16 q.ty, .int .u16 q.cl]) hw2
      clear hw2
      obtain ⟨bq, hbq⟩ : ∃ p, wr.heap.size = p := ⟨_, rfl⟩
      rw [hbq] at hb2 ⊢
      have d0 : w2.cell? ⟨bq, 0, none⟩ = some (.string q.name) := hb2.cell (i := 0) rfl
      have d1 : w2.cell? ⟨bq, 1, none⟩ = some (.int .u16 q.ty) := hb2.cell (i := 1) rfl
      have d2 : w2.cell? ⟨bq, 2, none⟩ = some (.int .u16 q.cl) := hb2.cell (i := 2) rfl
      have hm2 := map_fr HREL.out.1 hf2 (by simp)
      have hrun := hm2.look kq Try.underlying80 (zeroB w2) (key_q q)
      rw [seen_v HREL.out.2.1] at hrun
      unfold Qn.v at hrun
      have HM2 := Hd.mk hm2
      have HF2 := Hd.mk (HREL.out.2.2.2.trans hf2)
      have HB2 := Hd.mk hb2
      clear hm2 hf2 hb2 hbq
      cases hin : decide (q ∈ l.take k) with
      | true =>
        rw [hin] at hrun
        have HE : Hd (eachB (goB s now) l = false) := Hd.mk (each_twice hlt HQ.out (of_decide_eq_true hin))
        clear hin
        go_wp2
        go_ret
        exact ⟨by rw [HE.out]; rfl, HF2.out⟩
      | false =>
        rw [hin] at hrun
        have HIN := Hd.mk (of_decide_eq_false hin)
        clear hin
        go_wp2_with fail
        refine (clo34_calls (now := now) (H.out.fr0 HF2.out) (H1.out.fr HF2.out (by simp)) (H2.out.fr HF2.out (by simp)) q).mono ?_
        rintro r w3 ⟨rfl, hf3⟩
        have HF3 := Hd.mk (HF2.out.trans hf3)
        have HM3 := Hd.mk (map_fr HM2.out hf3 (by simp))
        have hb3 := HB2.out.fr hf3 (by simp)
        clear hrun d0 d1 d2 hf3
        have d0 : w3.cell? ⟨bq, 0, none⟩ = some (.string q.name) := hb3.cell (i := 0) rfl
        have d1 : w3.cell? ⟨bq, 1, none⟩ = some (.int .u16 q.ty) := hb3.cell (i := 1) rfl
        have d2 : w3.cell? ⟨bq, 2, none⟩ = some (.int .u16 q.cl) := hb3.cell (i := 2) rfl
        clear hb3
        cases hp : goB s now q with
        | false =>
          have HE : Hd (eachB (goB s now) l = false) := Hd.mk (each_no hlt HQ.out hp)
          clear hp
          go_wp2
          go_ret
          exact ⟨by rw [HE.out]; rfl, HF3.out⟩
        | true =>
          have hEl := HREL.out.2.1.len
          rw [List.length_take] at hEl
          obtain ⟨w4, hrun, hm4, htn⟩ := HM3.out.update lit_inj kq Try.underlying80 (by unfold maxLen; omega) (key_q q) (lit_key q) true
          unfold Qn.v vB at hrun
          have HM4 := Hd.mk hm4
          have HOK := Hd.mk (HREL.out.2.2.1.next hlt HQ.out HIN.out hp)
          have HSE : Hd (SeenIs (putL E q true) (l.take (k + 1))) := Hd.mk (by
            rw [List.take_succ_eq_append_getElem hlt, HQ.out]
            exact HREL.out.2.1.put q)
          have HF4 : Hd (Fr [] w w4) := Hd.mk (HF3.out.weak (Fr.turned htn) (fun x hx => .inr (by rw [HBM.out]; simp only [List.mem_singleton] at hx; omega)))
          clear hm4 htn hEl hp
          go_wp2
          go_roundg (l.length - (k + 1))
          case measure => omega
          case rel => exact ⟨k + 1, _, by omega, by omega, by go_num, ⟨HM4.out, HSE.out, HOK.out, HF4.out⟩⟩
    · have : k = l.length := by omega
      subst this
      have HE : Hd (eachB (goB s now) l = true) := Hd.mk (each_all HREL.out.2.2.1)
      go_wp2
      go_ret
      exact ⟨by rw [HE.out]; rfl, HREL.out.2.2.2⟩
set_option maxRecDepth 100000 in
set_option maxHeartbeats 8000000 in
theorem each32_calls {w : World} {P : Pt} {s : Ps} (h : PtAt w P s) {c1 c2 : Nat} {now : Int} (h1 : Blk w c1 52 [.pointer (some ⟨P.pp, 0, none⟩)]) (h2 : Blk w c2 30 [.int .u64 now]) {A : Option Addr} {n c : Nat} {l : List Qn} (hs : SlIs Qn.c 3 w A n l) : Calls Try.prog 31 #[.slice A n c, .func (.func 32) #[] #[.pointer (some ⟨c1, 0, none⟩), .pointer (some ⟨c2, 0, none⟩)]] w fun r w' => r = .returned (.bool (eachB (goB s now) l)) ∧ Fr [] w w' := by
  obtain ⟨rfl, hle, hrow⟩ := hs
  have H := Hd.mk h
  have H1 := Hd.mk h1
  have H2 := Hd.mk h2
  have HR := Hd.mk hrow
  clear h h1 h2 hrow
  have hle' : (l.length : Int) ≤ 9223372036854775807 := by omega
  have hmm := @run_makeMap Try.prog
  go_enter Try.func31, Try.ntmps31
  go_upto_region 2 with (fail)
  clear hmm
  refine wp_name ?_; intro w1 hw1
  have hm1 : mapIs Qn.lit vB Try.prog 28 w1 w.heap.size [] := by rw [hw1]; exact mapIs_made _ _ _ _ _
  have hf1 : Fr [] w w1 := by rw [hw1]; exact (Fr.refl [] w).alloc _
  clear hw1
  obtain ⟨bm, hbm⟩ : ∃ p, w.heap.size = p := ⟨_, rfl⟩
  rw [hbm] at hm1 ⊢
  have HBM := Hd.mk hbm
  have HM1 := Hd.mk hm1
  have HF1 := Hd.mk hf1
  clear hm1 hf1 hbm
  go_wp2_with fail
  go_loopg [11] l.length (fun g v wr => ∃ k E, k ≤ l.length ∧ l.length - k ≤ g ∧ v = .int .i64 (k : Nat) ∧ Hd (mapIs Qn.lit vB Try.prog 28 wr bm E ∧ SeenIs E (l.take k) ∧ okTo (goB s now) l k ∧ Fr [] w wr))
  case atStart => exact ⟨0, [], Nat.zero_le _, by omega, rfl, ⟨HM1.out, ⟨fun q => by simp [findL], by simp⟩, okTo_zero _ _, HF1.out⟩⟩
  case round =>
    obtain ⟨k, E, hk, hg, rfl, HREL⟩ := hrel
    by_cases hlt : k < l.length
    · obtain ⟨b, off, rfl, hb, hc⟩ := HR.out (by omega)
      have hfr := HREL.out.2.2.2
      have e0 : wr.cell? ⟨b, off + k * 3, none⟩ = some (.string (l[k]).name) := hfr.cell (hc k hlt 0 _ rfl) (by simp)
      have e1 : wr.cell? ⟨b, off + k * 3 + 1, none⟩ = some (.int .u16 (l[k]).ty) := hfr.cell (hc k hlt 1 _ rfl) (by simp)
      have e2 : wr.cell? ⟨b, off + k * 3 + 2, none⟩ = some (.int .u16 (l[k]).cl) := hfr.cell (hc k hlt 2 _ rfl) (by simp)
      clear hc hb hfr
      obtain ⟨q, hq⟩ : ∃ q, l[k] = q := ⟨_, rfl⟩
      rw [hq] at e0 e1 e2
      have HQ := Hd.mk hq
      clear hq
      have hltI : (k : Int) < (l.length : Int) := by omega
      go_upto_region 5 with (fail)
      clear e0 e1 e2
      refine wp_name ?_; intro w2 hw2
      have hf2 := alloc_of hw2
      have hb2 := blk_of (T := 28) (c := [.string q.name, .int .u16 q.ty, .int .u16 q.cl]) hw2
      clear hw2
      obtain ⟨bq, hbq⟩ : ∃ p, wr.heap.size = p := ⟨_, rfl⟩
      rw [hbq] at hb2 ⊢
      have d0 : w2.cell? ⟨bq, 0, none⟩ = some (.string q.name) := hb2.cell (i := 0) rfl
      have d1 : w2.cell? ⟨bq, 1, none⟩ = some (.int .u16 q.ty) := hb2.cell (i := 1) rfl
      have d2 : w2.cell? ⟨bq, 2, none⟩ = some (.int .u16 q.cl) := hb2.cell (i := 2) rfl
      have hm2 := map_fr HREL.out.1 hf2 (by simp)
      have hrun := hm2.look kq Try.underlying80 (zeroB w2) (key_q q)
      rw [seen_v HREL.out.2.1] at hrun
      unfold Qn.v at hrun
      have HM2 := Hd.mk hm2
      have HF2 := Hd.mk (HREL.out.2.2.2.trans hf2)
      have HB2 := Hd.mk hb2
      clear hm2 hf2 hb2 hbq
      cases hin : decide (q ∈ l.take k) with
      | true =>
        rw [hin] at hrun
        have HE : Hd (eachB (goB s now) l = false) := Hd.mk (each_twice hlt HQ.out (of_decide_eq_true hin))
        clear hin
        go_wp2
        go_ret
        exact ⟨by rw [HE.out]; rfl, HF2.out⟩
      | false =>
        rw [hin] at hrun
        have HIN := Hd.mk (of_decide_eq_false hin)
        clear hin
        go_wp2_with fail
        refine (clo32_calls (now := now) (H.out.fr0 HF2.out) (H1.out.fr HF2.out (by simp)) (H2.out.fr HF2.out (by simp)) q).mono ?_
        rintro r w3 ⟨rfl, hf3⟩
        have HF3 := Hd.mk (HF2.out.trans hf3)
        have HM3 := Hd.mk (map_fr HM2.out hf3 (by simp))
        have hb3 := HB2.out.fr hf3 (by simp)
        clear hrun d0 d1 d2 hf3
        have d0 : w3.cell? ⟨bq, 0, none⟩ = some (.string q.name) := hb3.cell (i := 0) rfl
        have d1 : w3.cell? ⟨bq, 1, none⟩ = some (.int .u16 q.ty) := hb3.cell (i := 1) rfl
        have d2 : w3.cell? ⟨bq, 2, none⟩ = some (.int .u16 q.cl) := hb3.cell (i := 2) rfl
        clear hb3
        cases hp : goB s now q with
        | false =>
          have HE : Hd (eachB (goB s now) l = false) := Hd.mk (each_no hlt HQ.out hp)
          clear hp
          go_wp2
          go_ret
          exact ⟨by rw [HE.out]; rfl, HF3.out⟩
        | true =>
          have hEl := HREL.out.2.1.len
          rw [List.length_take] at hEl
          obtain ⟨w4, hrun, hm4, htn⟩ := HM3.out.update lit_inj kq Try.underlying80 (by unfold maxLen; omega) (key_q q) (lit_key q) true
          unfold Qn.v vB at hrun
          have HM4 := Hd.mk hm4
          have HOK := Hd.mk (HREL.out.2.2.1.next hlt HQ.out HIN.out hp)
          have HSE : Hd (SeenIs (putL E q true) (l.take (k + 1))) := Hd.mk (by
            rw [List.take_succ_eq_append_getElem hlt, HQ.out]
            exact HREL.out.2.1.put q)
          have HF4 : Hd (Fr [] w w4) := Hd.mk (HF3.out.weak (Fr.turned htn) (fun x hx => .inr (by rw [HBM.out]; simp only [List.mem_singleton] at hx; omega)))
          clear hm4 htn hEl hp
          go_wp2
          go_roundg (l.length - (k + 1))
          case measure => omega
          case rel => exact ⟨k + 1, _, by omega, by omega, by go_num, ⟨HM4.out, HSE.out, HOK.out, HF4.out⟩⟩
    · have : k = l.length := by omega
      subst this
      have HE : Hd (eachB (goB s now) l = true) := Hd.mk (each_all HREL.out.2.2.1)
      go_wp2
      go_ret
      exact ⟨by rw [HE.out]; rfl, HREL.out.2.2.2⟩
end Go.Proofs.Ytbmejolmbfmdiaa
