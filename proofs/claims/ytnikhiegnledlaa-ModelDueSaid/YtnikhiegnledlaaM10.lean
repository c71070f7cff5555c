import Derived.Test.YtnikhiegnledlaaM9
import Derived.Test.YtnikhiegnledlaaOpn
namespace Go.Proofs.Ytnikhiegnledlaa
open Go Go.RowKit Go.Proofs.MapL PPM Go.Proofs.YtnikhiegnledlaaW.PrintWords

def Dd.c (d : Dd) : List Value := [.int .i64 d.kind, .string d.x.e.q.name, .int .u16 d.x.e.q.ty, .int .u16 d.x.e.q.cl, .slice d.x.e.ra d.x.e.rn d.x.e.rc, .int .i64 d.x.e.rcode, .int .i64 d.x.e.rank, .int .u64 d.x.e.expire, .int .u64 d.now]
/-- What Lookup hands back, as the words have it. -/
theorem lookx_calls {w : World} {p b : Nat} {room : Int} {X : List Ex} (hm : MAt w p b room (ents X)) (hr : ∀ x ∈ X, RrOk w (Nb p b) x) (q : Qn) (now : Int) :
    Calls Try.prog 17 #[.pointer (some ⟨p, 0, none⟩), q.v, .int .u64 now] w fun r w' => Fr [] w w' ∧ ∃ A c, r = .returned (.tuple #[.agg #[.string (lookS X q now).f0.f0, .int .u16 (lookS X q now).f0.f1, .int .u16 (lookS X q now).f0.f2, .slice A (lookS X q now).f1.length c, .int .i64 (lookS X q now).f2, .int .i64 (lookS X q now).f3, .int .u64 (lookS X q now).f4], .bool (lookX X q now).isSome]) ∧ (lookS X q now).f1.length ≤ c ∧ Kd.F k70 w' (Nb p b) A (lookS X q now).f1.length (lookS X q now).f1 := by
  refine (lookup_calls hm q now).mono ?_
  rintro r w' ⟨rfl, hf⟩
  refine ⟨hf, ?_⟩
  have h1 := lookX_V X q now
  have h2 := lookX_B X q now
  rw [h1, ← h2]
  have e : lookS X q now = ((lookX X q now).map Ex.s).getD exZ := rfl
  cases hl : lookX X q now with
  | none =>
    rw [hl] at e
    rw [e]
    exact ⟨none, 0, rfl, Nat.le_refl _, Kd.F_nil _ _ _⟩
  | some x =>
    rw [hl] at e
    rw [e]
    have hx := (hr x (lookX_mem hl).1).step hf (by simp)
    refine ⟨x.e.ra, x.e.rc, ?_, hx.c, hx.f⟩
    have hn : x.e.v = .agg #[.string x.e.q.name, .int .u16 x.e.q.ty, .int .u16 x.e.q.cl, .slice x.e.ra x.l.length x.e.rc, .int .i64 x.e.rcode, .int .i64 x.e.rank, .int .u64 x.e.expire] := by
      rw [← hx.n]; rfl
    simp only [Option.map_some, Option.getD_some, hn]
    rfl
/-- A list of deeds that came in. -/
structure DeedsAt (w : World) (v : Value) (ds : List Dd) : Prop where
  le : ds.length ≤ 9223372036854775807
  rr : ∀ d ∈ ds, RrOk w (fun k => k < w.heap.size) d.x
  at_ : ∃ A c, v = .slice A ds.length c ∧ (0 < ds.length → ∃ b off, A = some ⟨b, off, none⟩ ∧ b < w.heap.size ∧ ∀ i (h : i < ds.length) (j : Nat) (u : Value), (ds[i]).c[j]? = some u → w.cell? ⟨b, off + i * 9 + j, none⟩ = some u)
abbrev QGood (q : S25) : Prop := q.f0.size ≤ maxLen ∧ (0 ≤ q.f1 ∧ q.f1 < 65536) ∧ (0 ≤ q.f2 ∧ q.f2 < 65536)
theorem heap70 : Kd.Heap k70 := Kd.heap_iso _ (Kd.heap_pair Kd.heap_string (Kd.heap_pair (Kd.heap_int _) (Kd.heap_pair (Kd.heap_int _) (Kd.heap_pair (Kd.heap_int _) Kd.heap_string))))
theorem opnQ : Opn Try.prog 25 k25 QGood := by
  have h : Opn Try.prog 25 k25 _ := opn_iso (f := fun x : S25 => (x.f0, x.f1, x.f2)) (g := fun a => ⟨a.1, a.2.1, a.2.2⟩) (fun _ => rfl) (opn_struct Try.underlying25 (by kernel_rfl)
    (opnF_cons rfl (opn_string Try.underlying9 (by kernel_rfl)) (opnF_cons rfl (opn_int Try.underlying23 (by kernel_rfl)) (opnF_one rfl (opn_int Try.underlying23 (by kernel_rfl))))))
  refine h.imp ?_
  rintro ⟨a, b, c⟩ ⟨h1, h2, h3⟩
  simp [Lit.wf, IntKind.min, IntKind.max, IntKind.signed, IntKind.bits] at h2 h3
  refine ⟨h1, ?_, ?_⟩ <;> dsimp only <;> omega
theorem opnRR : Opn Try.prog 70 k70 (fun _ => True) := by
  have h : Opn Try.prog 70 k70 _ := opn_iso (f := fun x : S70 => (x.f0, x.f1, x.f2, x.f3, x.f4)) (g := fun a => ⟨a.1, a.2.1, a.2.2.1, a.2.2.2.1, a.2.2.2.2⟩) (fun _ => rfl) (opn_struct Try.underlying70 (by kernel_rfl)
    (opnF_cons rfl (opn_string Try.underlying9 (by kernel_rfl)) (opnF_cons rfl (opn_int Try.underlying23 (by kernel_rfl)) (opnF_cons rfl (opn_int Try.underlying23 (by kernel_rfl)) (opnF_cons rfl (opn_int Try.underlying42 (by kernel_rfl)) (opnF_one rfl (opn_string Try.underlying9 (by kernel_rfl))))))))
  exact h.imp fun _ _ => trivial
theorem opnE : Opn Try.prog 35 k35 (fun x => QGood x.f0) := by
  have h : Opn Try.prog 35 k35 _ := opn_iso (f := fun x : S35 => (x.f0, x.f1, x.f2, x.f3, x.f4)) (g := fun a => ⟨a.1, a.2.1, a.2.2.1, a.2.2.2.1, a.2.2.2.2⟩) (fun _ => rfl) (opn_struct Try.underlying35 (by kernel_rfl)
    (opnF_cons rfl opnQ (opnF_cons rfl (opn_slice Try.underlying32 (by kernel_rfl) opnRR) (opnF_cons rfl (opn_int Try.underlying3 (by kernel_rfl)) (opnF_cons rfl (opn_int Try.underlying3 (by kernel_rfl)) (opnF_one rfl (opn_int Try.underlying33 (by kernel_rfl))))))))
  exact h.imp fun _ h => h.1
theorem opnD : Opn Try.prog 37 k37 (fun x => QGood x.f1.f0) := by
  have h : Opn Try.prog 37 k37 _ := opn_iso (f := fun x : S37 => (x.f0, x.f1, x.f2)) (g := fun a => ⟨a.1, a.2.1, a.2.2⟩) (fun _ => rfl) (opn_struct Try.underlying37 (by kernel_rfl)
    (opnF_cons rfl (opn_int Try.underlying3 (by kernel_rfl)) (opnF_cons rfl opnE (opnF_one rfl (opn_int Try.underlying33 (by kernel_rfl))))))
  exact h.imp fun _ h => h.2.1
/-- An entry that is read. -/
theorem ex_of {w : World} {x : S35} {cs : List Value} (h : k35.K w x cs) (hg : QGood x.f0) : ∃ y : Ex, cs = y.e.c ∧ y.s = x ∧ RrOk w (fun k => k < w.heap.size) y := by
  obtain ⟨A, c, rfl, hl, hc⟩ := k35_open h
  exact ⟨⟨⟨⟨x.f0.f0, x.f0.f1, x.f0.f2, hg⟩, A, x.f1.length, c, x.f2, x.f3, x.f4⟩, x.f1⟩, rfl, rfl, rfl, hl, Kd.C_F heap70 hc⟩
theorem dd_of {w : World} {x : S37} {cs : List Value} (h : k37.K w x cs) (hg : QGood x.f1.f0) : ∃ d : Dd, cs = d.c ∧ RrOk w (fun k => k < w.heap.size) d.x := by
  obtain ⟨A, c, rfl, hl, hc⟩ := k37_open h
  exact ⟨⟨x.f0, ⟨⟨⟨x.f1.f0.f0, x.f1.f0.f1, x.f1.f0.f2, hg⟩, A, x.f1.f1.length, c, x.f1.f2, x.f1.f3, x.f1.f4⟩, x.f1.f1⟩, x.f2⟩, rfl, rfl, hl, Kd.C_F heap70 hc⟩
theorem add_at {b off k : Nat} : (⟨b, off, none⟩ : Addr).add k = ⟨b, off + k, none⟩ := by unfold Addr.add; split <;> simp_all
theorem at_none {w : World} {a : Addr} {v : Value} (h : w.cell? (a.add 0) = some v) : a.spot = none := by
  have h0 : a.add 0 = a := by simp [Addr.add]
  rw [h0] at h
  unfold World.cell? at h
  cases hs : a.spot with
  | none => rfl
  | some x => split at h <;> simp [hs] at h
theorem deeds_of {w : World} {v : Value} {xs : List S37} (h : (Kd.slice 37 k37).K w xs [v]) (hg : ∀ x ∈ xs, QGood x.f1.f0) : ∃ ds, DeedsAt w v ds := by
  obtain ⟨A, c, hv, hl, hlen, hmax, hc⟩ := h
  obtain rfl : v = .slice A xs.length c := by simpa using hv
  have hone : ∀ i, i < xs.length → ∃ d : Dd, (∀ ad, A = some ad → ∀ j u, d.c[j]? = some u → w.cell? (ad.add (i * 9 + j)) = some u) ∧ RrOk w (fun k => k < w.heap.size) d.x := by
    intro i hi
    obtain ⟨ad, rfl, hc2⟩ := hc (by omega)
    obtain ⟨cs, hcl, hk, hcc⟩ := hc2 i _ (List.getElem?_eq_getElem hi)
    obtain ⟨d, rfl, hr⟩ := dd_of hk (hg _ (List.getElem_mem hi))
    refine ⟨d, fun ad' e j u hu => ?_, hr⟩
    obtain rfl : ad = ad' := by simpa using e
    exact hcc j u hu
  obtain ⟨ds, hdl, hp⟩ := list_of hone
  refine ⟨ds, by omega, ?_, A, c, by rw [hdl], fun h0 => ?_⟩
  · intro d hd
    obtain ⟨i, hi, rfl⟩ := List.getElem_of_mem hd
    exact (hp i hi).2
  · obtain ⟨ad, rfl, -⟩ := hc (by omega)
    have h1 := (hp 0 h0).1 ad rfl 0 _ rfl
    obtain ⟨b, off, spot⟩ := ad
    have hs := at_none (a := ⟨b, off, spot⟩) (by simpa using h1)
    dsimp only at hs
    subst hs
    refine ⟨b, off, rfl, ?_, fun i hi j u hu => ?_⟩
    · have := World.block_lt_of_cell? w _ h1
      simpa [add_at] using this
    · have h2 := (hp i hi).1 _ rfl j u hu
      rw [add_at] at h2
      rw [Nat.add_assoc]; exact h2
theorem doX_room {X : List Ex} {room : Int} {d : Dd} (h : (X.length : Int) ≤ room) (hr : 1 ≤ room) : ((doX X room d).length : Int) ≤ room := by
  unfold doX
  split
  · unfold insX
    split
    · rename_i hc
      unfold putX
      split
      · simpa using h
      · rename_i hf
        have hn : findE (ents X) d.x.e.q = none := by simpa using hf
        unfold insC at hc
        rw [hn] at hc
        simp only [List.length_map] at hc
        split at hc
        · split at hc
          · omega
          · simp; omega
        · omega
    · exact h
  · split
    · exact h
    · split
      · have := List.length_filter_le (fun x : Ex => decide (x.e.q ≠ d.x.e.q)) X
        unfold delX; omega
      · have := List.length_filter_le (fun x : Ex => liveB x.e.expire d.now) X
        unfold liveX; omega
/-- A model of five entries at most, behind deeds. -/
def RanR (w : World) (r : Ending) (w' : World) : Prop := ∃ p b X v, r = .returned (.pointer (some ⟨p, 0, none⟩)) ∧ DS w' p b 5 X v ∧ X.length ≤ 5 ∧ Fr [] w w' ∧ w.heap.size ≤ p ∧ w.heap.size ≤ b
set_option maxRecDepth 100000 in
set_option maxHeartbeats 4000000 in
theorem ran_calls {w : World} {v : Value} {ds : List Dd} (hD : DeedsAt w v ds) : Calls Try.prog 16 #[v] w (RanR w) := by
  obtain ⟨hle, hrr, A, c, rfl, hat⟩ := hD
  have HAT := Hd.mk hat
  have HRR := Hd.mk hrr
  clear hat hrr
  go_enter Try.func16, Try.ntmps16
  go_wp2_with fail
  refine (new_calls 5 (by omega) _).mono ?_
  rintro r w1 ⟨p, b, rfl, hM, hF, hp, hb⟩
  have hds : DS w1 p b 5 [] (.slice none 0 0) := ⟨hM, Kd.V_nil _ _ _ _ _, by simp⟩
  clear hM
  go_wp2_with fail
  go_loopw [4, 5] (fun v4 i wr => ∃ (k : Nat) (X : List Ex), k ≤ ds.length ∧ k ≤ 200 ∧ i = .int .i64 k ∧ DS wr p b 5 X v4 ∧ X.length ≤ 5 ∧ Fr [] w wr) (fun _ i _ => 200 - (intOf i).toNat)
  case atStart => exact ⟨0, [], Nat.zero_le _, by omega, rfl, hds, by simp, hF⟩
  case round =>
    obtain ⟨k, X, hk, hk2, rfl, hs, hX, hFr⟩ := hrel
    by_cases hlt : k < ds.length
    · by_cases hlt2 : k < 200
      · obtain ⟨g, off, rfl, hgl, hcc⟩ := HAT.out (by omega)
        obtain ⟨d, hd⟩ : ∃ d, ds[k] = d := ⟨_, rfl⟩
        have hcd := hcc k hlt
        have hrd := HRR.out (ds[k]) (List.getElem_mem hlt)
        rw [hd] at hcd hrd
        have hwr : ∀ j u, d.c[j]? = some u → wr.cell? ⟨g, off + k * 9 + j, none⟩ = some u := fun j u hu => hFr.cell (hcd j u hu) (by simp)
        have c0 : wr.cell? ⟨g, off + k * 9, none⟩ = some (.int .i64 d.kind) := hwr 0 _ rfl
        have c1 : wr.cell? ⟨g, off + k * 9 + 1, none⟩ = some (.string d.x.e.q.name) := hwr 1 _ rfl
        have c2 : wr.cell? ⟨g, off + k * 9 + 2, none⟩ = some (.int .u16 d.x.e.q.ty) := hwr 2 _ rfl
        have c3 : wr.cell? ⟨g, off + k * 9 + 3, none⟩ = some (.int .u16 d.x.e.q.cl) := hwr 3 _ rfl
        have c4 : wr.cell? ⟨g, off + k * 9 + 4, none⟩ = some (.slice d.x.e.ra d.x.e.rn d.x.e.rc) := hwr 4 _ rfl
        have c5 : wr.cell? ⟨g, off + k * 9 + 5, none⟩ = some (.int .i64 d.x.e.rcode) := hwr 5 _ rfl
        have c6 : wr.cell? ⟨g, off + k * 9 + 6, none⟩ = some (.int .i64 d.x.e.rank) := hwr 6 _ rfl
        have c7 : wr.cell? ⟨g, off + k * 9 + 7, none⟩ = some (.int .u64 d.x.e.expire) := hwr 7 _ rfl
        have c8 : wr.cell? ⟨g, off + k * 9 + 8, none⟩ = some (.int .u64 d.now) := hwr 8 _ rfl
        have hrd2 : RrOk wr (Nb p b) d.x := (hrd.step hFr (by simp)).mono fun k hk => ⟨by omega, by omega⟩
        have hdo := do_any hs d hrd2 (by omega)
        unfold Dd.v at hdo
        have HDO := Hd.mk hdo
        clear hdo hcd hrd hwr hcc hrd2 hd
        go_wp2_with fail
        clear c0 c1 c2 c3 c4 c5 c6 c7 c8
        refine HDO.out.mono ?_
        rintro r w2 ⟨v', rfl, hs2, hf2⟩
        have hF2 : Fr [] w w2 := hFr.weak hf2 (by simpa using hb)
        have hX2 : (doX X 5 d).length ≤ 5 := by have := doX_room (X := X) (room := 5) (d := d) (by omega) (by omega); omega
        have HS2 := Hd.mk hs2
        have HF2 := Hd.mk hF2
        have HX2 := Hd.mk hX2
        clear hs hs2 hf2 hF2 hX2 hFr HDO
        go_wp2
        go_roundw
        case rel => exact ⟨k + 1, doX X 5 d, by omega, by omega, by go_num, HS2.out, HX2.out, HF2.out⟩
        case measure => simp [intOf]; omega
      · have HS := Hd.mk hs
        have HF := Hd.mk hFr
        clear hs hFr
        go_wp2
        go_ret
        exact ⟨p, b, X, _, rfl, HS.out, hX, HF.out, hp, hb⟩
    · have HS := Hd.mk hs
      have HF := Hd.mk hFr
      clear hs hFr
      go_wp2
      go_ret
      exact ⟨p, b, X, _, rfl, HS.out, hX, HF.out, hp, hb⟩
end Go.Proofs.Ytnikhiegnledlaa
