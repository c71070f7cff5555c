import Derived.Test.YtnikhiegnledlaaM6
import Derived.Test.YtnikhiegnledlaaSrtO
namespace Go.Proofs.Ytnikhiegnledlaa
open Go Go.RowKit Go.Proofs.MapL

/-- The questions of those that aren't live. -/
def dq (now : Int) (done : List (Qn × En)) : List Qn := (done.filter fun p => !liveB p.2.expire now).map (·.1)
def dueS (L : List En) (now : Int) : List Qn := (dq now (kv L)).mergeSort fun x y => !qLess y x
def liveL (L : List En) (now : Int) : List En := L.filter fun e => liveB e.expire now
theorem dq_app (now : Int) (done : List (Qn × En)) (q : Qn) (e : En) : dq now (done ++ [(q, e)]) = if liveB e.expire now then dq now done else dq now done ++ [q] := by
  unfold dq
  rw [List.filter_append, List.map_append]
  cases h : liveB e.expire now <;> simp [List.filter_cons, h]
theorem kv_apart {L : List En} (h : (kv L).Pairwise fun p q => p.1 ≠ q.1) : L.Pairwise fun a b => a.q ≠ b.q := by
  unfold kv at h; rw [List.pairwise_map] at h; exact h
theorem perm_done {L done : List (Qn × En)} (hL : L.Pairwise fun p q => p.1 ≠ q.1) (hd : done.Pairwise fun p q => p.1 ≠ q.1) (h1 : ∀ p ∈ done, p ∈ L) (h2 : ∀ p ∈ L, p ∈ done) : done.Perm L :=
  (List.perm_ext_iff_of_nodup (hd.imp fun h e => h (by rw [e])) (hL.imp fun h e => h (by rw [e]))).2 fun p => ⟨h1 p, h2 p⟩
theorem dq_perm {now : Int} {a b : List (Qn × En)} (h : a.Perm b) : (dq now a).Perm (dq now b) := (h.filter _).map _
theorem sort_perm {l l' : List Qn} (h : l.Perm l') : (l.mergeSort fun x y => !qLess y x) = l'.mergeSort fun x y => !qLess y x := by
  have tr : ∀ a b c : Qn, (!qLess b a) = true → (!qLess c b) = true → (!qLess c a) = true := fun a b c h1 h2 => by
    simp only [Bool.not_eq_true'] at *; exact qLess_ntrans h2 h1
  have tot : ∀ a b : Qn, ((!qLess b a) || (!qLess a b)) = true := fun a b => by
    cases h1 : qLess b a
    · rfl
    · rw [qLess_asymm h1]; rfl
  refine List.Perm.eq_of_pairwise (le := fun a b => (!qLess b a) = true) (fun a b _ _ h1 h2 => ?_) (List.pairwise_mergeSort tr tot l) (List.pairwise_mergeSort tr tot l') (((List.mergeSort_perm l _).trans h).trans (List.mergeSort_perm l' _).symm)
  simp only [Bool.not_eq_true'] at h1 h2
  exact qLess_total h2 h1
theorem fold_del (L : List En) : ∀ ks : List Qn, ks.foldl delE L = L.filter fun e => decide (e.q ∉ ks) := by
  intro ks
  induction ks generalizing L with
  | nil =>
    show L = _
    rw [List.filter_eq_self.2]; simp
  | cons k ks ih =>
    rw [List.foldl_cons, ih]
    unfold delE
    rw [List.filter_filter]
    apply List.filter_congr
    intro e _
    simp [not_or, Bool.and_comm]
theorem fold_live {L : List En} (hL : L.Pairwise fun a b => a.q ≠ b.q) {now : Int} {ks : List Qn} (h : ks.Perm (dq now (kv L))) : ks.foldl delE L = liveL L now := by
  rw [fold_del]
  unfold liveL
  apply List.filter_congr
  intro e he
  have h1 : e.q ∈ ks ↔ liveB e.expire now = false := by
    rw [h.mem_iff]
    unfold dq kv
    simp only [List.mem_map, List.mem_filter, Bool.not_eq_true']
    constructor
    · rintro ⟨p, ⟨⟨x, hx, rfl⟩, hp⟩, hq⟩
      have : x = e := by
        rcases Classical.em (x = e) with h2 | h2
        · exact h2
        · exfalso
          obtain ⟨i, hi, rfl⟩ := List.getElem_of_mem hx
          obtain ⟨j, hj, rfl⟩ := List.getElem_of_mem he
          rw [List.pairwise_iff_getElem] at hL
          rcases Nat.lt_trichotomy i j with h3 | h3 | h3
          · exact hL i j hi hj h3 hq
          · subst h3; exact h2 rfl
          · exact hL j i hj hi h3 hq.symm
      subst this
      exact hp
    · intro hl
      exact ⟨(e.q, e), ⟨⟨e, he, rfl⟩, hl⟩, rfl⟩
  cases hl : liveB e.expire now
  · simp [h1.2 hl]
  · have : e.q ∉ ks := fun hh => by rw [h1.1 hh] at hl; cases hl
    simp [this]

theorem Blk.three {w w2 : World} {g T : Nat} {a b c a' b' c' : Value} (H : Blk w g T [a, b, c])
    (hw : w2 = ((w.setCell ⟨g, 0, none⟩ a').setCell ⟨g, 1, none⟩ b').setCell ⟨g, 2, none⟩ c') : Blk w2 g T [a', b', c'] ∧ Fr [g] w w2 := by
  subst hw
  exact ⟨by simpa using ((H.set 0 a').set 1 b').set 2 c', (fr_set.trans fr_set).trans fr_set⟩
theorem el51 : Elem Try.prog 51 25 (.agg #[.string ⟨#[]⟩, .int .u16 0, .int .u16 0]) 3 24 := ⟨by kernel_rfl, by kernel_rfl, rfl, by omega⟩
instance : Inhabited Qn := ⟨⟨⟨#[]⟩, 0, 0, by simp [ByteArray.size], by omega, by omega⟩⟩
theorem qc_len (q : Qn) : q.c.length = 3 := rfl
/-- The first loop of Due. -/
def DueR (w : World) (b r : Nat) (L : List En) (now : Int) (v : Value) (wr : World) : Prop :=
  ∃ done, rangeIs Qn.lit En.v Try.prog 25 wr b r (kv L) done ∧ wr.ownsRow w.heap.size 25 3 v (dq now done).length ((dq now done).flatMap Qn.c) ∧ (dq now done = [] → v = .slice none 0 0) ∧ Fr [] w wr
theorem iter_ne {w : World} {b r base n : Nat} {L : List En} {done : List (Qn × En)} {v : Value} {xs : List Value} (h : rangeIs Qn.lit En.v Try.prog 25 w b r (kv L) done) (ho : w.ownsRow base 25 3 v n xs) : ∀ k, v.ownBlock = some k → k ≠ r ∧ k ≠ b := by
  intro k hk
  rcases ho.2 with ⟨rfl, -⟩ | ⟨g, cap, cur, rfl, -, hgg, -⟩
  · simp [Value.ownBlock] at hk
  · simp only [Value.ownBlock, Option.some.injEq] at hk
    subst hk
    refine ⟨?_, ?_⟩
    · rintro rfl
      obtain ⟨m, s, n, c, hit⟩ := h.iter
      rw [hgg] at hit; cases hit
    · rintro rfl
      obtain ⟨D, ⟨es, clock, h1, -⟩, -⟩ := h.map
      rw [hgg] at h1; cases h1
theorem range_fr {w w' : World} {S : List Nat} {b r : Nat} {L : List En} {done : List (Qn × En)} (h : rangeIs Qn.lit En.v Try.prog 25 w b r (kv L) done) (hf : Fr S w w') (hb : b ∉ S) (hr : r ∉ S) : rangeIs Qn.lit En.v Try.prog 25 w' b r (kv L) done ∧ w'.rangeLeft b r = w.rangeLeft b r :=
  h.keep (hf.block b h.map.lt hb) (hf.block r h.rlt hr)
theorem r_apart {w : World} {b r : Nat} {L done : List (Qn × En)} (h : rangeIs Qn.lit En.v Try.prog 25 w b r L done) : done.Pairwise fun p q => p.1 ≠ q.1 := by
  obtain ⟨_, _, _, -, -, h, -⟩ := h
  exact h
theorem r_sub {w : World} {b r : Nat} {L done : List (Qn × En)} (h : rangeIs Qn.lit En.v Try.prog 25 w b r L done) : ∀ p ∈ done, p ∈ L := by
  obtain ⟨_, _, _, -, -, -, h, -⟩ := h
  exact h
theorem m_apart {w : World} {b : Nat} {L : List (Qn × En)} (h : mapIs Qn.lit En.v Try.prog 25 w b L) : L.Pairwise fun p q => p.1 ≠ q.1 := by
  obtain ⟨_, -, h⟩ := h
  exact h.apart
theorem dq_len {w : World} {b r : Nat} {L done : List (Qn × En)} {now : Int} {k : Nat} (h : rangeIs Qn.lit En.v Try.prog 25 w b r L done) (hk : L.length < k) : (dq now done).length < k := by
  obtain ⟨D, left, cnt, h1, hr, hd, hs, -⟩ := h
  have h2 : done.Perm (L.filter fun p => decide (p.1 ∈ done.map (·.1))) := by
    refine (List.perm_ext_iff_of_nodup (hd.imp fun h e => h (by rw [e])) ((hr.apart.imp fun h e => h (by rw [e])).filter _)).2 fun p => ?_
    rw [List.mem_filter]
    constructor
    · intro hp; exact ⟨hs p hp, by simpa using ⟨p.2, hp⟩⟩
    · rintro ⟨hp, hq⟩
      have hq : ∃ v, (p.1, v) ∈ done := by simpa using hq
      obtain ⟨v, hv⟩ := hq
      have e1 := mem_find hr.apart (hs _ hv)
      have e2 := mem_find hr.apart (show (p.1, p.2) ∈ L from hp)
      rw [e1] at e2
      have : v = p.2 := Option.some.inj e2
      subst this
      exact hv
  have h3 := h2.length_eq
  have h4 := List.length_filter_le (fun p : Qn × En => decide (p.1 ∈ done.map (·.1))) L
  have h5 : (dq now done).length ≤ done.length := by
    unfold dq; rw [List.length_map]; exact List.length_filter_le _ _
  omega
set_option maxRecDepth 100000 in
set_option maxHeartbeats 4000000 in
theorem due_calls {w : World} {p b : Nat} {room : Int} {L : List En} (h : MAt w p b room L) (hL : L.length < 1099511627776) (now : Int) : Calls Try.prog 21 #[.pointer (some ⟨p, 0, none⟩), .int .u64 now] w fun x w' => ∃ v, x = .returned v ∧ w'.ownsRow w.heap.size 25 3 v (dueS L now).length ((dueS L now).flatMap Qn.c) ∧ (dueS L now = [] → v = .slice none 0 0) ∧ MAt w' p b room (liveL L now) ∧ Fr [b] w w' := by
  obtain ⟨h1, h2⟩ := h.cells
  have hmap := h.map
  have hblt := h.blt
  have hplt := h.plt
  have hbp := h.ne
  have hkl : (kv L).length < 1099511627776 := by rw [kv_len]; exact hL
  go_enter Try.func21, Try.ntmps21
  go_wp2_with (at_range; refine map_range rfl (.tmp 15) 57 rfl 35 kq Try.underlying57 rfl hmap ?_; intro w0 hrg0 hg0 hs0)
  go_frame
  have hF0 : Fr [] w w0 := (Fr.of_grown hg0).mono (by simp)
  have HAP := Hd.mk (m_apart h.map)
  clear h1 h2 hg0 hs0
  go_loopw [5] (fun v wr => DueR w b w.heap.size L now v wr) (fun _ wr => wr.rangeLeft b w.heap.size)
  case atStart => exact ⟨[], hrg0, World.ownsRow_nil _ _ _ _, fun _ => rfl, hF0⟩
  case round =>
    obtain ⟨done, hrg, hown, hvn, hfr⟩ := hrel
    have hsz := hfr.size
    go_wp2_with (at_next; refine map_next lit_inj lit_key Qn.v (fun _ _ hh => q_inv hh) rfl (.tmp 16) rfl kq rfl hrg ?_ ?_)
    · intro hall
      have hks : (dq now done).Perm (dq now (kv L)) := dq_perm (perm_done HAP.out (r_apart hrg) (r_sub hrg) (fun p hp => hall p.1 p.2 hp))
      have hlen : (dq now done).length < 1099511627776 := dq_len hrg hkl
      obtain ⟨ks, hke⟩ : ∃ ks, dq now done = ks := ⟨_, rfl⟩
      rw [hke] at hown hvn hks hlen
      have hM : MAt wr p b room L := h.fr hfr (by simp) (by simp)
      have hS : ks.mergeSort (fun x y => !qLess y x) = dueS L now := sort_perm hks
      have hFL : ks.foldl delE L = liveL L now := fold_live (kv_apart HAP.out) hks
      have HS := Hd.mk hS
      have HFL := Hd.mk hFL
      clear hS hFL hks hall hrg hke hmap
      rcases ks with _ | ⟨k0, ks0⟩
      · have hv := hvn rfl
        subst hv
        have hnone := AnyF.slices_SortFunc_none Try.sortQ none 0 (.func (.func 31) #[] #[]) wr
        change Calls Try.prog 30 _ _ _ at hnone
        go_wp2_with fail
        refine wp_loop_rounds 1 ?_; rw [rounds_succ]
        go_wp2_with fail
        refine hnone.mono ?_
        rintro x w3 ⟨rfl, rfl⟩
        have e1 : dueS L now = [] := by rw [← HS.out]; simp
        have e2 : liveL L now = L := HFL.out.symm
        have hF : Fr [b] w w3 := hfr.mono (by simp)
        have E1 := Hd.mk e1
        have E2 := Hd.mk e2
        clear e1 e2
        go_wp2
        go_ret
        rw [E1.out, E2.out]
        exact ⟨_, rfl, hown, fun _ => rfl, hM, hF⟩
      · obtain ⟨ks, hks⟩ : ∃ ks, k0 :: ks0 = ks := ⟨_, rfl⟩
        rw [hks] at hown hlen HS HFL
        have hn0 : 0 < ks.length := by rw [← hks]; simp
        clear hks hvn
        obtain ⟨g, c, rfl, hgb, hgl⟩ := own_form hown hn0
        have hgne := own_ne hown hM.blk (by decide) g rfl
        have hgnb : g ≠ b := by omega
        go_wp2_with fail
        go_loopw [33] (fun i w3 => ∃ k : Nat, k ≤ ks.length ∧ i = .int .i64 k ∧ MAt w3 p b room ((ks.take k).foldl delE L) ∧ w3.ownsRow w.heap.size 25 3 (.slice (some ⟨g, 0, none⟩) ks.length c) ks.length (ks.flatMap Qn.c) ∧ Fr [b] w w3) (fun i _ => ks.length - (intOf i).toNat)
        case atStart => exact ⟨0, Nat.zero_le _, rfl, hM, hown, hfr.mono (by simp)⟩
        case round =>
          obtain ⟨k, hk, rfl, hM3, hown3, hF3⟩ := hrel
          by_cases hlt : k < ks.length
          · have hx : ∀ j, j < 3 → wr.cell? ⟨g, k * 3 + j, none⟩ = (ks[k]).c[j]? := by
              intro j hj
              rw [hown3.cellAt _ (by omega), flat_get qc_len _ _ _ hj, List.getElem?_eq_getElem hlt]
              rfl
            have c0 : wr.cell? ⟨g, k * 3, none⟩ = some (.string (ks[k]).name) := hx 0 (by omega)
            have c1 : wr.cell? ⟨g, k * 3 + 1, none⟩ = some (.int .u16 (ks[k]).ty) := hx 1 (by omega)
            have c2 : wr.cell? ⟨g, k * 3 + 2, none⟩ = some (.int .u16 (ks[k]).cl) := hx 2 (by omega)
            clear hx
            obtain ⟨q, hqe⟩ : ∃ q, ks[k] = q := ⟨_, rfl⟩
            rw [hqe] at c0 c1 c2
            have HQ := Hd.mk hqe
            clear hqe
            go_upto_region 12 with (fail)
            clear c0 c1 c2
            refine wp_name ?_
            intro w5 hw5
            have hf5 : Fr [] wr w5 := by rw [hw5]; exact (Fr.refl [] wr).alloc _
            have hq5 : Blk w5 wr.heap.size 25 q.c := by rw [hw5]; exact Blk.new _ _ _
            unfold Qn.c at hq5
            clear hw5
            have hM5 := hM3.fr hf5 (by simp) (by simp)
            have hown5 := own_fr hown3 hf5 (by simp)
            have hF5 := hF3.trans (hf5.mono (by simp))
            obtain ⟨d0, d1, d2, df⟩ := hq5.cells3
            go_wp2_with fail
            refine (drop_calls hM5 q).mono ?_
            rintro x w6 ⟨rfl, hM6, hf6⟩
            have hown6 := own_fr hown5 hf6 (by simpa [Value.ownBlock] using hgnb)
            have hF6 := hF5.trans hf6
            clear d0 d1 d2 df hM5 hown5 hF5 hq5 hf5 hM3 hown3 hF3 hf6
            go_wp2
            go_roundw
            case rel =>
              refine ⟨k + 1, by omega, by go_num, ?_, hown6, hF6⟩
              rw [List.take_succ_eq_append_getElem hlt, List.foldl_append, HQ.out]
              exact hM6
            case measure => simp [intOf]; omega
          · have hke : k = ks.length := by omega
            subst hke
            rw [List.take_length, HFL.out] at hM3
            have eg : ∀ args w, (callFunc 31 args).run Try.prog w = .ok (.enter 31 args) w := enters_of Try.func31 (by kernel_rfl) rfl
            have hsort := AnyQ.slices_SortFunc_total Try.sortQ 3 Try.isAgg25 Try.sizeOf25 Qn.c qc_len (fun x v hv => by simp [Qn.c] at hv; rcases hv with rfl | rfl | rfl <;> rfl) cfQ swo_cfQ 31 #[] g 0 c ks.toArray wr eg (fun _ _ _ _ x y => compare_calls x y _) (own_holdsK qc_len (by omega) hown3 rfl) (hown3.lt g rfl).2 (by simp; omega) (fun x y h1 h2 => by rw [ltOf_cfQ] at h1 h2; exact qLess_total h1 h2)
            change Calls Try.prog 30 _ _ _ at hsort
            have hso := fun (m : Nat) (d : Array Qn) (os : Array Obj) hd => own_sorted qc_len (by omega) (m := m) (d := d) (os := os) hown3 rfl hd
            have HSO := Hd.mk hso
            clear hso eg
            go_wp2_with fail
            refine hsort.mono ?_
            rintro x w6 ⟨rfl, n, os, hw6⟩
            clear hsort
            have hle : (ks.toArray.toList.mergeSort fun x y => !(ltOf cfQ) y x) = dueS L now := by
              rw [← HS.out]
              show ks.mergeSort _ = _
              congr 1
              funext x y
              rw [ltOf_cfQ]
            rw [hle] at hw6
            have hdl : (dueS L now).length = ks.length := by rw [← HS.out, List.length_mergeSort]
            obtain ⟨ho6, hf6⟩ := HSO.out n (dueS L now).toArray os (by simpa using hdl)
            rw [← hw6] at ho6 hf6
            have hM6 := hM3.fr hf6 (by simpa using Ne.symm hgne) (by simpa using Ne.symm hgnb)
            have hF6 : Fr [b] w w6 := hF3.weak hf6 (by simpa using Or.inr hgb)
            have ho6 : w6.ownsRow w.heap.size 25 3 (.slice (some ⟨g, 0, none⟩) ks.length c) (dueS L now).length ((dueS L now).flatMap Qn.c) := by
              rw [hdl]; exact ho6
            have HDL := Hd.mk hdl
            clear hw6 hle hdl hf6 HSO hown3 hM3
            go_wp2
            go_ret
            exact ⟨_, rfl, ho6, fun h0 => by have := HDL.out; rw [h0] at this; simp at this; omega, hM6, hF6⟩
    · intro q e w2 hmem hnew hrg2 hlt hgr hsz2 hen
      have hne := iter_ne hrg hown
      have hfr2 : Fr [w.heap.size] wr w2 := Fr.of_grown hgr
      have hown2 := own_fr hown hfr2 (fun k hk => by simpa using (hne k hk).1)
      have hF2 : Fr [] w w2 := hfr.weak hfr2 (by simp)
      have hlen : (dq now done).length < 1099511627776 := dq_len hrg hkl
      have HLT := Hd.mk hlt
      have HVN := Hd.mk hvn
      have hq2 : w.heap.size ≤ w2.heap.size := hF2.size
      clear hlt hsz2 hgr hrg hown hne hfr2 hfr hsz hvn hmem hnew
      unfold Qn.v En.v at hen
      go_upto_region 7 with (fail)
      refine wp_name ?_
      intro w5 hw5
      have hf25 : Fr [] w2 w5 := by rw [hw5]; exact ((Fr.refl [] w2).alloc _).alloc _
      have hq5 : Blk w5 w2.heap.size 25 [.string q.name, .int .u16 q.ty, .int .u16 q.cl] := by rw [hw5]; exact (Blk.new _ _ _).alloc _
      have he5 : Blk w5 (w2.heap.size + 1) 35 [.string e.q.name, .int .u16 e.q.ty, .int .u16 e.q.cl, .slice e.ra e.rn e.rc, .int .i64 e.rcode, .int .i64 e.rank, .int .u64 e.expire] := by
        rw [hw5]
        have h0 := Blk.new (w2.alloc (.cells #[.string q.name, .int .u16 q.ty, .int .u16 q.cl] 25)) 35 [.string e.q.name, .int .u16 e.q.ty, .int .u16 e.q.cl, .slice e.ra e.rn e.rc, .int .i64 e.rcode, .int .i64 e.rank, .int .u64 e.expire]
        simp only [World.size_alloc] at h0
        exact h0
      have hz5 : w2.heap.size + 2 = w5.heap.size := by rw [hw5]; simp
      clear hw5 hen
      have hF5 := hF2.trans hf25
      obtain ⟨hrg5, hl5⟩ := range_fr hrg2 hf25 (by simp) (by simp)
      have hown5 := own_fr hown2 hf25 (by simp)
      have HL5 := Hd.mk hl5
      clear hrg2 hown2 hl5 hf25 hF2
      obtain ⟨d0, d1, d2, d3, d4, d5, d6, df⟩ := he5.cells7
      rcases hlv : liveB e.expire now with _ | _
      · have HLV := Hd.mk hlv
        clear hlv
        go_wp2_with fail
        refine (live_calls _ _ _).mono ?_
        rintro x w6 ⟨rfl, rfl⟩
        rw [HLV.out]
        clear d0 d1 d2 d3 d4 d5 d6 df
        obtain ⟨d0, d1, d2, df⟩ := hq5.cells3
        have hbz : w.heap.size ≤ w6.heap.size := by omega
        go_wp2_with (at_builtin; refine wpList_app1s el51 rfl (.tmp 27) (.tmp 29) rfl hown5 rfl q.c rfl rfl (by simp [Qn.c, Value.oneCell']) (by omega) (by omega) (by omega) ?_; intro g c w7 ho7 hf7 hb7 hg7 hor7)
        have hne5 := iter_ne hrg5 hown5
        obtain ⟨hrg7, hl7⟩ := range_fr hrg5 hf7 (fun hx => (hne5 b (by simpa using hx)).2 rfl) (fun hx => (hne5 w.heap.size (by simpa using hx)).1 rfl)
        have HL7 := Hd.mk hl7
        clear hl7 d0 d1 d2 df
        go_roundw
        case rel =>
          refine ⟨done ++ [(q, e)], hrg7, ?_, ?_, hF5.weak hf7 (fun x hx => .inr (hown5.lt x (by simpa using hx)).1)⟩
          · rw [dq_app, HLV.out]
            simpa using ho7
          · rw [dq_app, HLV.out]; simp
        case measure =>
          have e1 := HLT.out
          have e2 := HL5.out
          have e3 := HL7.out
          omega
      · have HLV := Hd.mk hlv
        clear hlv
        go_wp2_with fail
        refine (live_calls _ _ _).mono ?_
        rintro x w6 ⟨rfl, rfl⟩
        rw [HLV.out]
        clear d0 d1 d2 d3 d4 d5 d6 df
        go_wp2
        go_roundw
        case rel =>
          refine ⟨done ++ [(q, e)], hrg5, ?_, ?_, hF5⟩
          · rw [dq_app, HLV.out]; exact hown5
          · rw [dq_app, HLV.out]; exact HVN.out
        case measure =>
          have e1 := HLT.out
          have e2 := HL5.out
          omega
end Go.Proofs.Ytnikhiegnledlaa
