import Derived.Test.YthnbdpcbagobhaaWQ1
import Derived.Test.YthnbdpcbagobhaaW11
namespace Go.Proofs.Ythnbdpcbagobhaa
open Go Go.RowKit Go.Proofs.MapL PPM Go.Proofs.YthnbdpcbagobhaaW.PrintWords

/-- A row of items that is read, at no block in S. -/
structure ItAt (w : World) (S : List Nat) (v : Value) (l : List It) : Prop where
  le : l.length ≤ 9223372036854775807
  at_ : ∃ A c, v = .slice A l.length c ∧ l.length ≤ c ∧ (0 < l.length → ∃ b off, A = some ⟨b, off, none⟩ ∧ b ∉ S ∧ b < w.heap.size ∧ ∀ i (h : i < l.length), w.cell? ⟨b, off + i * 2, none⟩ = some (.int .i64 l[i].i) ∧ w.cell? ⟨b, off + i * 2 + 1, none⟩ = some (.int .u64 l[i].t))
section
variable {w w' : World} {S : List Nat} {v : Value} {l : List It}
theorem ItAt.fr (h : ItAt w S v l) (hf : Fr S w w') : ItAt w' S v l := by
  obtain ⟨hle, A, c, hv, hlc, hc⟩ := h
  refine ⟨hle, A, c, hv, hlc, fun h0 => ?_⟩
  obtain ⟨b, off, hA, hb, hbl, hh⟩ := hc h0
  exact ⟨b, off, hA, hb, Nat.lt_of_lt_of_le hbl hf.size, fun i hi => ⟨hf.cell (hh i hi).1 hb, hf.cell (hh i hi).2 hb⟩⟩
theorem ItAt.nil (w : World) (S : List Nat) : ItAt w S (.slice none 0 0) [] := ⟨by simp, none, 0, rfl, Nat.le_refl _, fun h => absurd h (by simp)⟩
theorem ItAt.empty (w : World) (S : List Nat) (A : Option Addr) (c : Nat) : ItAt w S (.slice A 0 c) [] := ⟨by simp, A, c, rfl, Nat.zero_le _, fun h => absurd h (by simp)⟩
theorem ItAt.C (h : ItAt w S v l) : ∃ A c, v = .slice A (l.map It.s).length c ∧ (l.map It.s).length ≤ c ∧ Kd.C k61 w A (l.map It.s).length (l.map It.s) := by
  obtain ⟨hle, A, c, hv, hlc, hc⟩ := h
  refine ⟨A, c, by simpa using hv, by simpa using hlc, by simp, by simpa using hle, fun h0 => ?_⟩
  obtain ⟨b, off, rfl, hb, hbl, hh⟩ := hc (by simpa using h0)
  refine ⟨_, rfl, ?_⟩
  intro j q hj
  rw [List.getElem?_map, Option.map_eq_some_iff] at hj
  obtain ⟨x, hx, rfl⟩ := hj
  obtain ⟨hjl, rfl⟩ := List.getElem?_eq_some_iff.1 hx
  refine ⟨[.int .i64 l[j].i, .int .u64 l[j].t], rfl, k61_mk w (l[j]).s, ?_⟩
  intro i u hu
  have e : (⟨b, off, none⟩ : Addr).add (j * k61.sz + i) = ⟨b, off + (j * 2 + i), none⟩ := by
    show (⟨b, off, none⟩ : Addr).add (j * 2 + i) = _
    exact add_at
  rw [e]
  cases i with
  | zero =>
    have hu : some (Value.int .i64 l[j].i) = some u := hu
    rw [← hu]; exact (hh j hjl).1
  | succ i =>
    cases i with
    | zero =>
      have hu : some (Value.int .u64 l[j].t) = some u := hu
      rw [← hu, ← Nat.add_assoc]; exact (hh j hjl).2
    | succ i => simp at hu
theorem ItAt.of_R {base : Nat} {ok : Nat → Prop} (h : Kd.R k61 61 w base ok v (l.map It.s)) (hS : ∀ x ∈ S, x < base) : ItAt w S v l := by
  obtain ⟨A, c, hv, hlc, hlen, hmax, hc⟩ := Kd.R_reads h
  obtain ⟨inner, ho⟩ := Kd.R_own h
  refine ⟨by simpa using hmax, A, c, by simpa using hv, by simpa using hlc, fun h0 => ?_⟩
  obtain ⟨ad, rfl, hcc⟩ := hc (by simpa using h0)
  have hcell : ∀ i (hi : i < l.length), w.cell? (ad.add (i * 2)) = some (.int .i64 l[i].i) ∧ w.cell? (ad.add (i * 2 + 1)) = some (.int .u64 l[i].t) := fun i hi => by
    obtain ⟨cs, hcl, hk, hcs⟩ := hcc i (l[i]).s (by rw [List.getElem?_map, List.getElem?_eq_getElem hi]; rfl)
    have hk := k61_open hk
    subst hk
    exact ⟨hcs 0 _ rfl, hcs 1 _ rfl⟩
  obtain ⟨b, off, spot⟩ := ad
  have hs := at_none (a := ⟨b, off, spot⟩) (by simpa using (hcell 0 h0).1)
  dsimp only at hs
  subst hs
  have hblt := World.block_lt_of_cell? w _ (hcell 0 h0).1
  have hbb : b < w.heap.size := by simpa [add_at] using hblt
  refine ⟨b, off, rfl, fun hx => ?_, hbb, fun i hi => ?_⟩
  · have h1 := hS b hx
    subst hv
    rcases ho.2 with ⟨e, -⟩ | ⟨g, cap, cur, e, hg, -⟩
    · cases e
    · simp only [Value.slice.injEq, Option.some.injEq, Addr.mk.injEq] at e
      omega
  · have h2 := hcell i hi
    rw [add_at, add_at, ← Nat.add_assoc] at h2
    exact h2
theorem ref_set (h : ItAt w S v l) (hl : l.length < 1000000) (hS : ∀ x ∈ S, x < w.heap.size) (id t : Int) :
    Calls Try.prog 21 #[v, .int .i64 id, .int .u64 t] w fun r w' => ∃ v', r = .returned v' ∧ ItAt w' S v' (insI (delI l id) ⟨id, t⟩) ∧ Fr [] w w' := by
  obtain ⟨A, c, rfl, hc, hC⟩ := h.C
  refine (derrickref11_Set.calls _ A c _ id t _ w hC hc (set_f l ⟨id, t⟩ hl)).mono ?_
  rintro r w' ⟨v0, rfl, hR, hb⟩
  exact ⟨v0, rfl, ItAt.of_R hR hS, fr_below hb⟩
theorem ref_del (h : ItAt w S v l) (hl : l.length < 1000000) (hS : ∀ x ∈ S, x < w.heap.size) (id : Int) :
    Calls Try.prog 22 #[v, .int .i64 id] w fun r w' => ∃ v', r = .returned (.tuple #[v', .bool (atI l id).isSome]) ∧ ItAt w' S v' (delI l id) ∧ Fr [] w w' := by
  obtain ⟨A, c, rfl, hc, hC⟩ := h.C
  refine (derrickref11_Del.calls _ A c _ id _ _ w hC hc (del_f l id hl (Nat.le_refl _))).mono ?_
  rintro r w' ⟨v0, rfl, hR, hb⟩
  exact ⟨v0, rfl, ItAt.of_R hR hS, fr_below hb⟩
theorem ref_at (h : ItAt w S v l) (hl : l.length < 1000000) (id : Int) :
    Calls Try.prog 15 #[v, .int .i64 id] w fun r w' => r = .returned (atV l id) ∧ Fr [] w w' := by
  obtain ⟨A, c, rfl, hc, hC⟩ := h.C
  refine (derrickref11_At.calls _ A c _ id _ _ w hC hc (at_f l id hl)).mono ?_
  rintro r w' ⟨rfl, hd⟩
  exact ⟨rfl, fr_drawn hd⟩
theorem ref_next (h : ItAt w S v l) (hs : SrtI l) :
    Calls Try.prog 17 #[v] w fun r w' => r = .returned (nextV l) ∧ Fr [] w w' := by
  obtain ⟨A, c, rfl, hc, hC⟩ := h.C
  refine (derrickref11_Next.calls A c _ _ _ w hC hc (next_f l hs)).mono ?_
  rintro r w' ⟨rfl, hd⟩
  exact ⟨rfl, fr_drawn hd⟩
def idsI (l : List It) (now : Int) : List Int := (l.filter fun x => decide (x.t ≤ now)).map (·.i)
theorem idsI_own {now : Int} {base n : Nat} {u : Value} (hn : n ≤ l.length) (htk : l.take n = l.filter fun x => decide (x.t ≤ now)) (ho : w.ownsRow base 3 1 u n ((l.take n).map fun x => .int .i64 x.i)) :
    w.ownsRow base 3 1 u (idsI l now).length ((idsI l now).map fun x => .int .i64 x) := by
  unfold idsI
  rw [← htk, List.length_map, List.length_take, Nat.min_eq_left hn, List.map_map]
  exact ho
set_option maxRecDepth 100000 in
set_option maxHeartbeats 2000000 in
theorem ref_due (h : ItAt w S v l) (hs : SrtI l) (hl : l.length < 1000000) (now : Int) :
    Calls Try.prog 23 #[v, .int .u64 now] w fun r w' => ∃ v1 v2, r = .returned (.tuple #[v1, v2]) ∧ ItAt w' S v1 (leftI l now) ∧ w'.ownsRow w.heap.size 3 1 v2 (idsI l now).length ((idsI l now).map fun x => .int .i64 x) ∧ Fr [] w w' := by
  obtain ⟨n, hn, hlo, hhi, hdr, htk⟩ := srt_split hs now
  have hidl : ∀ j (hj : j ≤ n), ((l.take j).map fun x : It => (Value.int .i64 x.i)).length = j := fun j hj => by rw [List.length_map, List.length_take]; omega
  obtain ⟨hle, A, c, rfl, hlc, hc⟩ := h
  have HLO := Hd.mk hlo
  have HHI := Hd.mk hhi
  have HC := Hd.mk hc
  have HTK := Hd.mk htk
  have HDR := Hd.mk hdr
  clear hlo hhi hc htk hdr
  go_enter Try.func23, Try.ntmps23
  go_wp2_with fail
  go_loopw [6, 7] (fun u i wr => ∃ j : Nat, j ≤ n ∧ i = .int .i64 j ∧ wr.ownsRow w.heap.size 3 1 u j ((l.take j).map fun x => .int .i64 x.i) ∧ Fr [] w wr) (fun _ i _ => l.length - (intOf i).toNat)
  case atStart => exact ⟨0, Nat.zero_le _, rfl, by simpa using World.ownsRow_nil _ _ _ _, Fr.refl _ _⟩
  case round =>
    obtain ⟨j, hj, rfl, ho, hfr⟩ := hrel
    have HF := Hd.mk hfr
    clear hfr
    by_cases hlt : j < l.length
    · obtain ⟨b, off, rfl, hb, hbl, hh⟩ := HC.out (by omega)
      have k0 := HF.out.cell (hh j hlt).1 (by simp)
      have k1 := HF.out.cell (hh j hlt).2 (by simp)
      by_cases hjn : j < n
      · have ht : decide (l[j].t ≤ now) = true := decide_eq_true (HLO.out j hlt hjn)
        obtain ⟨x, hx⟩ : ∃ x, l[j] = x := ⟨_, rfl⟩
        rw [hx] at k0 k1 ht
        have HX := Hd.mk hx
        have hbz : w.heap.size ≤ wr.heap.size := HF.out.size
        clear hh hx
        go_wp2_with (at_builtin; refine wpList_app1s elI rfl (.tmp 21) (.tmp 27) rfl ho rfl [.int .i64 x.i] rfl rfl (by simp [Value.oneCell']) (by omega) (by omega) hbz ?_; intro g9 c9 w9 ho9 hf9 hb9 hg9 hor9; have HX9 := Hd.mk (HF.out.weak hf9 (fun z hz => .inr (ho.lt z (by simpa using hz)).1)); have HO9 := Hd.mk ho9; clear ho9 hf9 hb9 hg9 hor9 ho k0 k1)
        go_roundw
        case rel => exact ⟨j + 1, by omega, by go_num, by rw [List.take_succ_eq_append_getElem hlt, HX.out, List.map_append]; exact HO9.out, HX9.out⟩
        case measure => simp [intOf]; omega
      · have hje : j = n := by omega
        subst hje
        have ht : decide (l[j].t ≤ now) = false := decide_eq_false (by have := HHI.out hlt; omega)
        obtain ⟨x, hx⟩ : ∃ x, l[j] = x := ⟨_, rfl⟩
        rw [hx] at k0 k1 ht
        have HIT : Hd (ItAt wr S (.slice (some ⟨b, off + j * 2, none⟩) (l.length - j) (c - j)) (leftI l now)) := Hd.mk (by
          rw [← HDR.out]
          refine ⟨by rw [List.length_drop]; omega, _, _, by rw [List.length_drop], by rw [List.length_drop]; omega, fun h0 => ⟨b, off + j * 2, rfl, hb, Nat.lt_of_lt_of_le hbl HF.out.size, fun i hi => ?_⟩⟩
          rw [List.length_drop] at hi
          have h2 := hh (j + i) (by omega)
          rw [show off + (j + i) * 2 = off + j * 2 + i * 2 by omega] at h2
          rw [List.getElem_drop]
          exact ⟨HF.out.cell h2.1 (by simp), HF.out.cell h2.2 (by simp)⟩)
        have HOW := Hd.mk (idsI_own hn HTK.out ho)
        clear hh ho
        go_wp2
        go_ret2
        exact ⟨_, _, rfl, HIT.out, HOW.out, HF.out⟩
    · have hje : j = n := by omega
      have hjl : n = l.length := by omega
      have HOW := Hd.mk (idsI_own hn HTK.out (by rw [hje] at ho; exact ho))
      have HLE : Hd (leftI l now = []) := Hd.mk (by rw [← HDR.out, hjl, List.drop_length])
      subst hje
      clear ho
      rcases Nat.lt_or_ge l.length c with hcl | hcl
      · go_wp2
        go_ret2
        exact ⟨_, _, rfl, by rw [HLE.out]; exact ItAt.empty _ _ _ _, HOW.out, HF.out⟩
      · obtain rfl : c = l.length := by omega
        go_wp2
        go_ret2
        exact ⟨_, _, rfl, by rw [HLE.out]; exact ItAt.empty _ _ _ _, HOW.out, HF.out⟩
end
end Go.Proofs.Ythnbdpcbagobhaa
