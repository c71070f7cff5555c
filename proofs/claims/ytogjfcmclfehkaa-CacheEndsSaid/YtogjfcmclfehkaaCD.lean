import Derived.Test.YtogjfcmclfehkaaCB
import Derived.Test.YtogjfcmclfehkaaLay2
namespace Go.Proofs.Ytogjfcmclfehkaa
open Go Go.RowKit Go.Proofs.MapL PPM Go.Proofs.YtogjfcmclfehkaaW.PrintWords

theorem events_nil (w : World) : Calls Try.prog 12 #[.pointer none] w fun r w' => r = .returned (.slice none 0 0) ∧ w' = w := by
  go_enter Try.func12, Try.ntmps12
  go_wp2
  go_ret
  exact ⟨rfl, rfl⟩
theorem history_nil (w : World) : Calls Try.prog 13 #[.pointer none] w fun r w' => r = .returned (.slice none 0 0) ∧ w' = w := by
  go_enter Try.func13, Try.ntmps13
  go_wp2
  go_ret
  exact ⟨rfl, rfl⟩
theorem clen_nil (w : World) : Calls Try.prog 17 #[.pointer none] w fun r w' => r = .returned (.int .i64 0) ∧ w' = w := by
  go_enter Try.func17, Try.ntmps17
  go_wp2
  go_ret
  exact ⟨rfl, rfl⟩
theorem begin_nil (d : Dd) (w : World) : Calls Try.prog 9 #[.pointer none, d.v] w fun r w' => r = .returned (.pointer none) ∧ Fr [] w w' := by
  have hF := (Fr.refl [] w).alloc (.cells #[.int .i64 d.kind, .string d.e.q.name, .int .u16 d.e.q.ty, .int .u16 d.e.q.cl, .slice d.e.ra d.e.rn d.e.rc, .int .i64 d.e.rcode, .int .i64 d.e.rank, .int .u64 d.e.expire, .int .u64 d.now] 39)
  have HF := Hd.mk hF
  clear hF
  unfold Dd.v
  go_enter Try.func9, Try.ntmps9
  go_wp2
  go_ret
  exact ⟨rfl, HF.out⟩
theorem begin_bad (pc : Nat) (d : Dd) (hk : d.kind < 1 ∨ 4 < d.kind) (w : World) : Calls Try.prog 9 #[.pointer (some ⟨pc, 0, none⟩), d.v] w fun r w' => r = .returned (.pointer none) ∧ Fr [] w w' := by
  have hF := (Fr.refl [] w).alloc (.cells #[.int .i64 d.kind, .string d.e.q.name, .int .u16 d.e.q.ty, .int .u16 d.e.q.cl, .slice d.e.ra d.e.rn d.e.rc, .int .i64 d.e.rcode, .int .i64 d.e.rank, .int .u64 d.e.expire, .int .u64 d.now] 39)
  have HF := Hd.mk hF
  clear hF
  unfold Dd.v
  rcases hk with hk | hk
  · go_enter Try.func9, Try.ntmps9
    go_wp2
    go_ret
    exact ⟨rfl, HF.out⟩
  · have h1 : ¬ d.kind < 1 := by omega
    go_enter Try.func9, Try.ntmps9
    go_wp2
    go_ret
    exact ⟨rfl, HF.out⟩
end Go.Proofs.Ytogjfcmclfehkaa
namespace Go.Proofs.Ytogjfcmclfehkaa
open Go Go.RowKit Go.Proofs.MapL PPM Go.Proofs.YtogjfcmclfehkaaW.PrintWords

theorem elPP : Elem Try.prog 56 61 (.pointer none) 1 8 := ⟨by kernel_rfl, by kernel_rfl, rfl, by omega⟩
def CB.all (C : CB) : List Nat := C.pc :: C.gp :: (C.ps ++ C.Bs.flatMap ShB.all)
def CB.wr (C : CB) : List Nat := C.pc :: (C.ps ++ C.Bs.flatMap ShB.wr)
def pV (p : Nat) : Value := .pointer (some ⟨p, 0, none⟩)
/-- A cache that is being made. -/
structure NewP (w : World) (b0 pc room : Nat) (vp : Value) (ps : List Nat) (Bs : List ShB) : Prop where
  len : Bs.length = ps.length
  row : w.ownsRow b0 61 1 vp ps.length (ps.map pV)
  pt : ∀ (i p : Nat) (B : ShB), ps[i]? = some p → Bs[i]? = some B → Blk w p 63 [.pointer (some ⟨B.p, 0, none⟩), .pointer none] ∧ ShE w B (newS room)
  ge : ∀ p ∈ ps, b0 ≤ p ∧ p < w.heap.size
  bl : ∀ B ∈ Bs, ∀ x ∈ B.all, b0 ≤ x ∧ x < w.heap.size
  gp : ∀ B ∈ Bs, ∀ k, vp.ownBlock = some k → k ∉ B.all
  nd : ps.Nodup
  ap : ∀ (i j : Nat) (B B' : ShB), Bs[i]? = some B → Bs[j]? = some B' → i ≠ j → ∀ x ∈ B.all, x ∉ B'.all
  pa : ∀ B ∈ Bs, ∀ p ∈ ps, p ∉ B.all
theorem get_snoc {α : Type} {l : List α} {a x : α} {i : Nat} (h : (l ++ [a])[i]? = some x) : (i < l.length ∧ l[i]? = some x) ∨ (i = l.length ∧ x = a) := by
  rcases Nat.lt_trichotomy i l.length with hl | rfl | hl
  · rw [List.getElem?_append_left hl] at h
    exact .inl ⟨hl, h⟩
  · rw [List.getElem?_append_right (Nat.le_refl _)] at h
    simp at h
    exact .inr ⟨rfl, h.symm⟩
  · rw [List.getElem?_eq_none (by simp; omega)] at h
    cases h
theorem NewP.step {w w' : World} {b0 pc room p : Nat} {vp vp' : Value} {ps : List Nat} {Bs : List ShB} {B : ShB} (h : NewP w b0 pc room vp ps Bs) (hf : Fr (pc :: vp.ownBlock.toList) w w') (hpc : pc < b0) (hb0 : b0 ≤ w.heap.size)
    (hrow : w'.ownsRow b0 61 1 vp' (ps.length + 1) (ps.map pV ++ [pV p])) (hb : Blk w' p 63 [.pointer (some ⟨B.p, 0, none⟩), .pointer none]) (hs : ShE w' B (newS room))
    (hp : w.heap.size ≤ p) (hB : ∀ x ∈ B.all, w.heap.size ≤ x) (hpB : p ∉ B.all) (hg : ∀ k, vp'.ownBlock = some k → (vp.ownBlock = some k ∨ w.heap.size ≤ k) ∧ k ∉ B.all) : NewP w' b0 pc room vp' (ps ++ [p]) (Bs ++ [B]) := by
  have hz := hf.size
  have hlt : ∀ B' ∈ Bs, ∀ x ∈ B'.all, x < w.heap.size := fun B' hB' x hx => (h.bl B' hB' x hx).2
  refine ⟨by simp [h.len], by simpa using hrow, fun i q B' a1 a2 => ?_, fun q hq => ?_, fun B' hB' x hx => ?_, fun B' hB' k hk => ?_, ?_, fun i j B1 B2 a1 a2 hij x hx => ?_, fun B' hB' q hq => ?_⟩
  · rcases get_snoc a1 with ⟨hi, b1⟩ | ⟨rfl, rfl⟩
    · rcases get_snoc a2 with ⟨-, b2⟩ | ⟨e, -⟩
      · obtain ⟨k1, k2⟩ := h.pt i q B' b1 b2
        refine ⟨k1.fr hf ?_, k2.fr hf fun x hx => ?_⟩
        · simp only [List.mem_cons, not_or]
          refine ⟨fun e => by have := (h.ge q (List.mem_of_getElem? b1)).1; omega, fun hx => ?_⟩
          exact (own_ne h.row k1 (by decide) q (by simpa using hx)) rfl
        · simp only [List.mem_cons, not_or]
          refine ⟨fun e => by have := (h.bl B' (List.mem_of_getElem? b2) x hx).1; omega, fun hx2 => ?_⟩
          exact h.gp B' (List.mem_of_getElem? b2) x (by simpa using hx2) hx
      · have := h.len; omega
    · rcases get_snoc a2 with ⟨hl, -⟩ | ⟨-, rfl⟩
      · have := h.len; omega
      · exact ⟨hb, hs⟩
  · rcases List.mem_append.1 hq with hq | hq
    · have := h.ge q hq; omega
    · obtain rfl := List.mem_singleton.1 hq
      exact ⟨by omega, hb.lt⟩
  · rcases List.mem_append.1 hB' with hB' | hB'
    · have := h.bl B' hB' x hx; omega
    · obtain rfl := List.mem_singleton.1 hB'
      exact ⟨by have := hB x hx; omega, hs.lt x hx⟩
  · rcases List.mem_append.1 hB' with hB' | hB'
    · intro hx
      rcases (hg k hk).1 with h1 | h1
      · exact h.gp B' hB' k h1 hx
      · have := hlt B' hB' k hx; omega
    · obtain rfl := List.mem_singleton.1 hB'
      exact (hg k hk).2
  · rw [List.nodup_append]
    refine ⟨h.nd, by simp, fun a ha b hb' => ?_⟩
    obtain rfl := List.mem_singleton.1 hb'
    have := (h.ge a ha).2
    omega
  · intro hx2
    rcases get_snoc a1 with ⟨hi, b1⟩ | ⟨rfl, rfl⟩
    · rcases get_snoc a2 with ⟨-, b2⟩ | ⟨-, rfl⟩
      · exact h.ap i j B1 B2 b1 b2 hij x hx hx2
      · have := hlt B1 (List.mem_of_getElem? b1) x hx
        have := hB x hx2
        omega
    · rcases get_snoc a2 with ⟨-, b2⟩ | ⟨e, -⟩
      · have := hlt B2 (List.mem_of_getElem? b2) x hx2
        have := hB x hx
        omega
      · exact hij e.symm
  · rcases List.mem_append.1 hB' with hB' | hB' <;> rcases List.mem_append.1 hq with hq | hq
    · exact h.pa B' hB' q hq
    · obtain rfl := List.mem_singleton.1 hq
      intro hx
      have := hlt B' hB' q hx; omega
    · obtain rfl := List.mem_singleton.1 hB'
      intro hx
      have := (h.ge q hq).2
      have := hB q hx; omega
    · obtain rfl := List.mem_singleton.1 hB'
      obtain rfl := List.mem_singleton.1 hq
      exact hpB
theorem NewP.done {w : World} {b0 pc room g cc : Nat} {ps : List Nat} {Bs : List ShB} (h : NewP w b0 pc room (.slice (some ⟨g, 0, none⟩) ps.length cc) ps Bs) (hn : 1 ≤ ps.length ∧ ps.length ≤ 16) (h0 : 1 ≤ room) (hpc : pc < b0) (hb0 : b0 ≤ w.heap.size)
    (hb : Blk w pc 58 [.slice (some ⟨g, 0, none⟩) ps.length cc, .slice none 0 0]) : CAt w ⟨pc, g, cc, w.heap.size, ps, Bs⟩ (.slice none 0 0) ⟨List.replicate ps.length (newS room), List.replicate ps.length none, []⟩ := by
  have hg := h.row.lt g rfl
  refine ⟨⟨h.len, hn, ?_, ?_, fun p hp => (h.ge p hp).2, fun B hB x hx => (h.bl B hB x hx).2, h.nd, h.ap, fun B hB => ⟨fun hx => ?_, h.gp B hB g rfl, h.pa B hB⟩⟩, Nat.le_refl _, by simp, by simp, hb, ?_, fun i p B s o a1 a2 a3 a4 => ?_, EvRow.nil _ _⟩
  · show pc < w.heap.size
    omega
  · exact hg.2
  · have := (h.bl B hB pc hx).1
    omega
  · obtain ⟨cs, h1⟩ := own_is_blk h.row
    refine ⟨cs, h1, fun i p hp => ?_⟩
    have h2 := own_cell (j := i) (v := pV p) h.row (by rw [List.getElem?_map, hp]; rfl)
    have h3 : w.heap[g]? = some (.cells cs.toArray 61 (0, 0)) := h1
    simpa [World.cell?, h3, pV] using h2
  · obtain ⟨k1, k2⟩ := h.pt i p B a1 a2
    have e1 : s = newS room := List.eq_of_mem_replicate (List.mem_of_getElem? a3)
    have e2 : o = none := List.eq_of_mem_replicate (List.mem_of_getElem? a4)
    subst e1 e2
    exact ⟨k1, k2, by simp [newS]; omega⟩
set_option maxRecDepth 100000 in
set_option maxHeartbeats 4000000 in
theorem new_cache (n room size : Nat) (h1 : 1 ≤ room) (h2 : room ≤ 64) (h3 : 1 ≤ size) (h4 : size ≤ 256) (hn : 1 ≤ n ∧ n ≤ 16) (w : World) :
    Calls Try.prog 8 #[.int .i64 n, .int .i64 room, .int .i64 size] w fun r w' => ∃ C : CB, r = .returned (pV C.pc) ∧ CAt w' C (.slice none 0 0) ⟨List.replicate n (newS room), List.replicate n none, []⟩ ∧ C.ps.length = n ∧ Fr [] w w' ∧ ∀ x ∈ C.all, w.heap.size ≤ x := by
  have c1 : ¬ ((n : Int) < 1) := by omega
  have c2 : ¬ ((16 : Int) < n) := by omega
  go_enter Try.func8, Try.ntmps8
  go_upto_region 4 with (fail)
  refine wp_name ?_; intro w0 hw0
  have hf0 := alloc_of hw0
  have hb0 := blk_of (T := 58) (c := [.slice none 0 0, .slice none 0 0]) hw0
  have hz0 : w0.heap.size = w.heap.size + 1 := by rw [hw0]; simp
  clear hw0 c1 c2
  obtain ⟨pc, h_pc⟩ : ∃ p, w.heap.size = p := ⟨_, rfl⟩
  rw [h_pc] at hb0 ⊢
  have HB0 := Hd.mk hb0
  have HF0 := Hd.mk hf0
  have HZ := Hd.mk (And.intro hz0 h_pc)
  clear hb0 hf0 hz0 h_pc
  go_wp2_with fail
  go_loopw [18] (fun i wr => ∃ (j : Nat) (vp : Value) (ps : List Nat) (Bs : List ShB), j ≤ n ∧ ps.length = j ∧ i = .int .i64 j ∧ Blk wr pc 58 [vp, .slice none 0 0] ∧ NewP wr w0.heap.size pc room vp ps Bs ∧ Fr [pc] w0 wr) (fun i _ => n - (intOf i).toNat)
  case atStart => exact ⟨0, _, [], [], Nat.zero_le _, rfl, rfl, HB0.out, ⟨rfl, World.ownsRow_nil _ _ _ _, (fun i p B h => by simp at h), (fun p h => by cases h), (fun p h => by cases h), (fun p h => by cases h), List.nodup_nil, (fun i j B B' h => by simp at h), (fun p h => by cases h)⟩, Fr.refl _ _⟩
  case round =>
    obtain ⟨j, vp, ps, Bs, hj, hpl, rfl, hb, hnp, hfr⟩ := hrel
    have HNP := Hd.mk hnp
    have HB := Hd.mk hb
    have HFR := Hd.mk hfr
    have HPL := Hd.mk hpl
    clear hb hnp hfr hpl
    by_cases hjn : j < n
    · go_wp2_with fail
      refine (shnew_calls room size h1 h2 h3 h4 _).mono ?_
      rintro r w1 ⟨B, rfl, hs1, hf1, hge⟩
      have HS := Hd.mk hs1
      have HF1 := Hd.mk hf1
      have HGE := Hd.mk hge
      have HB1 := Hd.mk (HB.out.fr hf1 (by simp))
      clear hs1 hf1 hge
      have HFA : Hd (Fr [] w1 (w1.alloc (.cells #[.pointer (some ⟨B.p, 0, none⟩), .pointer none] 63))) := Hd.mk ((Fr.refl _ _).alloc _)
      have HPB : Hd (Blk (w1.alloc (.cells #[.pointer (some ⟨B.p, 0, none⟩), .pointer none] 63)) w1.heap.size 63 [.pointer (some ⟨B.p, 0, none⟩), .pointer none]) := Hd.mk (Blk.new _ _ _)
      have hown : (w1.alloc (.cells #[.pointer (some ⟨B.p, 0, none⟩), .pointer none] 63)).ownsRow w0.heap.size 61 1 vp j (ps.map pV) := by
        rw [← HPL.out]
        exact own_fr (own_fr HNP.out.row HF1.out (by simp)) HFA.out (by simp)
      have hbz : w0.heap.size ≤ (w1.alloc (.cells #[.pointer (some ⟨B.p, 0, none⟩), .pointer none] 63)).heap.size := by
        have e1 := HFR.out.size
        have e2 := HF1.out.size
        have e3 := HFA.out.size
        omega
      have HNO : Hd (pc ∉ vp.ownBlock.toList) := Hd.mk fun hx => by
        have e1 := (hown.lt pc (by simpa using hx)).1
        have e2 := HZ.out
        omega
      have b0 : w1.cell? ⟨pc, 0, none⟩ = some vp := HB1.out.cell (i := 0) rfl
      go_upto_region 10 with (at_builtin; refine wpList_app1s elPP rfl (.tmp 29) (.tmp 33) rfl hown rfl [.pointer (some ⟨w1.heap.size, 0, none⟩)] (by rw [World.size_alloc]; rfl) rfl (by simp [Value.oneCell']) (by omega) (by omega) hbz ?_; intro g9 c9 w9 ho9 hf9 hb9 hg9 hor9; have HO9 := Hd.mk ho9; have HF9 := Hd.mk hf9; have HG9 := Hd.mk (And.intro hb9 hg9); have HOR := Hd.mk hor9; have q9 := (HB1.out.fr HFA.out (by simp)).fr hf9 HNO.out; have bf : w9.frozen? ⟨pc, 0, none⟩ = false := q9.free 0; have bc : w9.cell? ⟨pc, 0, none⟩ = some vp := q9.cell (i := 0) rfl; have HQ9 := Hd.mk q9; clear ho9 hf9 hb9 hg9 hor9 q9 b0 hown hbz)
      refine wp_name ?_; intro w2 hw2
      have f2 : Fr [pc] w9 w2 := by rw [hw2]; exact fr_set
      have hb2 : Blk w2 pc 58 [.slice (some ⟨g9, 0, none⟩) (j + 1) c9, .slice none 0 0] := by rw [hw2]; simpa using HQ9.out.set 0 (.slice (some ⟨g9, 0, none⟩) (j + 1) c9)
      clear hw2 bf bc
      have HF2 := Hd.mk f2
      have HB2 := Hd.mk hb2
      clear f2 hb2
      have HNP2 : Hd (NewP w2 w0.heap.size pc room (.slice (some ⟨g9, 0, none⟩) (j + 1) c9) (ps ++ [w1.heap.size]) (Bs ++ [B])) := Hd.mk (by
        have e0 := HZ.out
        have e1 := HFR.out.size
        have e2 := HF1.out.size
        have e3 := HFA.out.size
        have e4 := HG9.out
        have hnb : ∀ x ∈ B.all, x < w1.heap.size := HS.out.lt
        have hgn : g9 ≠ pc := by omega
        have ff : Fr (pc :: vp.ownBlock.toList) w9 w2 := HF2.out.mono (by simp)
        have hpl := HPL.out
        have hpo : ∀ k, w1.heap.size ≤ k → k ∉ vp.ownBlock.toList := fun k hk hx => by
          have := (HNP.out.row.lt k (by simpa using hx)).2
          omega
        refine HNP.out.step (((HF1.out.mono (by simp)).trans (HFA.out.mono (by simp))).trans ((HF9.out.mono (fun x hx => List.mem_cons_of_mem _ hx)).trans ff)) (by omega) (by omega) ?_ ?_ ?_ (by omega) HGE.out ?_ ?_
        · rw [hpl]
          exact own_fr HO9.out HF2.out (by simpa [Value.ownBlock] using hgn)
        · exact (HPB.out.fr HF9.out (hpo _ (Nat.le_refl _))).fr HF2.out (by simp; omega)
        · refine ((HS.out.fr0 HFA.out).fr HF9.out fun x hx hx2 => ?_).fr HF2.out fun x hx hx2 => ?_
          · have h5 := (HNP.out.row.lt x (by simpa using hx2)).2
            have h6 := HGE.out x hx
            omega
          · obtain rfl := List.mem_singleton.1 hx2
            have h6 := HGE.out x hx
            omega
        · intro hx
          have := hnb _ hx
          omega
        · intro k hk
          obtain rfl : g9 = k := by simpa [Value.ownBlock] using hk
          rcases HOR.out with h5 | h5
          · refine ⟨.inl h5, fun hx => ?_⟩
            have h6 := (HNP.out.row.lt g9 h5).2
            have h7 := HGE.out _ hx
            omega
          · simp only [World.size_alloc] at h5
            refine ⟨.inr (by omega), fun hx => ?_⟩
            have := hnb _ hx
            omega)
      have HFX : Hd (Fr [pc] w0 w2) := Hd.mk (by
        have e1 := HFR.out.size
        have e2 := HF1.out.size
        have h0 := (HFR.out.trans (HF1.out.mono (by simp))).trans (HFA.out.mono (by simp))
        exact (h0.weak HF9.out (fun x hx => .inr (HNP.out.row.lt x (by simpa using hx)).1)).trans HF2.out)
      go_wp2
      go_roundw
      case rel => exact ⟨j + 1, _, _, _, by omega, by simp [HPL.out], by go_num, HB2.out, HNP2.out, HFX.out⟩
      case measure => simp [intOf]; omega
    · have hje : j = n := by omega
      subst hje
      go_wp2_with fail
      go_ret
      have hpl := HPL.out
      obtain ⟨gx, cx, rfl, -, -⟩ := own_form HNP.out.row (by omega)
      have e0 := HZ.out
      have hd := HNP.out.done (by omega) h1 (by omega) HFR.out.size (by have := HB.out; rw [hpl]; rw [hpl] at this; exact this)
      refine ⟨⟨pc, gx, cx, wr.heap.size, ps, Bs⟩, rfl, ?_, hpl, ?_, fun x hx => ?_⟩
      · rw [hpl] at hd; exact hd
      · exact HF0.out.weak HFR.out (fun x hx => .inr (by simp at hx; omega))
      · simp only [CB.all, List.mem_cons, List.mem_append, List.mem_flatMap] at hx
        rcases hx with rfl | rfl | hx | ⟨B, hB, hx⟩
        · omega
        · have := (HNP.out.row.lt x rfl).1; omega
        · have := (HNP.out.ge x hx).1; omega
        · have := (HNP.out.bl B hB x hx).1; omega
end Go.Proofs.Ytogjfcmclfehkaa
namespace Go.Proofs.Ytogjfcmclfehkaa
open Go Go.RowKit Go.Proofs.MapL PPM Go.Proofs.YtogjfcmclfehkaaW.PrintWords

theorem built_job (pc : Nat) (k : Int) (n : ByteArray) (ty cl : Int) (A : Option Addr) (rn rc : Nat) (r1 r2 ex now : Int) (sb : Nat) : Try.prog.built 66 [(0, .pointer (some ⟨pc, 0, none⟩)), (1, .agg #[.int .i64 k, .string n, .int .u16 ty, .int .u16 cl, .slice A rn rc, .int .i64 r1, .int .i64 r2, .int .u64 ex, .int .u64 now]), (2, .slice (some ⟨sb, 0, none⟩) 1 1)] = some #[.pointer (some ⟨pc, 0, none⟩), .int .i64 k, .string n, .int .u16 ty, .int .u16 cl, .slice A rn rc, .int .i64 r1, .int .i64 r2, .int .u64 ex, .int .u64 now, .slice (some ⟨sb, 0, none⟩) 1 1, .bool false, .slice none 0 0] := by kernel_rfl
theorem build_job (pc : Nat) (d : Dd) (sb : Nat) (w : World) : (Instr.build 66 #[(0, .pointer (some ⟨pc, 0, none⟩)), (1, .agg #[.int .i64 d.kind, .string d.e.q.name, .int .u16 d.e.q.ty, .int .u16 d.e.q.cl, .slice d.e.ra d.e.rn d.e.rc, .int .i64 d.e.rcode, .int .i64 d.e.rank, .int .u64 d.e.expire, .int .u64 d.now]), (2, .slice (some ⟨sb, 0, none⟩) 1 1)]).run Try.prog w = .ok (.agg #[.pointer (some ⟨pc, 0, none⟩), .int .i64 d.kind, .string d.e.q.name, .int .u16 d.e.q.ty, .int .u16 d.e.q.cl, .slice d.e.ra d.e.rn d.e.rc, .int .i64 d.e.rcode, .int .i64 d.e.rank, .int .u64 d.e.expire, .int .u64 d.now, .slice (some ⟨sb, 0, none⟩) 1 1, .bool false, .slice none 0 0]) w := run_build w _ _ _ (built_job pc d.kind d.e.q.name d.e.q.ty d.e.q.cl d.e.ra d.e.rn d.e.rc d.e.rcode d.e.rank d.e.expire d.now sb)
theorem JAt.new {w : World} {C : CB} {d : Dd} {pj : Nat} {lv : Value} {l : List Nat} (hb : Blk w pj 66 [.pointer (some ⟨C.pc, 0, none⟩), .int .i64 d.kind, .string d.e.q.name, .int .u16 d.e.q.ty, .int .u16 d.e.q.cl, .slice d.e.ra d.e.rn d.e.rc, .int .i64 d.e.rcode, .int .i64 d.e.rank, .int .u64 d.e.expire, .int .u64 d.now, lv, .bool false, .slice none 0 0]) (h0 : C.n0 ≤ pj) (hl : LeftAt w C.n0 lv l) (ho : ∀ i ∈ l, i < C.ps.length) (hk : 1 ≤ d.kind ∧ d.kind ≤ 4) (hte : TOk d.e.expire) (htn : TOk d.now) : JAt w C ⟨pj, d, l, lv, false, [], .slice none 0 0⟩ :=
  ⟨h0, hb, hl, EvRow.nil _ _, ho, hk, hte, htn⟩
set_option maxRecDepth 100000 in
set_option maxHeartbeats 8000000 in
theorem begin_one {w : World} {C : CB} {hv : Value} {c : Cs} (hc : CAt w C hv c) (d : Dd) (hnm : d.e.q.name.size ≤ 1000000000000000) (hte : TOk d.e.expire) (htn : TOk d.now) (hk : 1 ≤ d.kind ∧ d.kind ≤ 3) : Calls Try.prog 9 #[pV C.pc, d.v] w fun r w' => ∃ j : Jb, r = .returned (pV j.p) ∧ JAt w' C j ∧ j.d = d ∧ j.left = [hashK d.e.q C.ps.length] ∧ j.did = false ∧ j.ev = [] ∧ j.vv = .slice none 0 0 ∧ w.heap.size ≤ j.p ∧ Fr [] w w' := by
  have h1 : ¬ d.kind < 1 := by omega
  have h2 : ¬ 4 < d.kind := by omega
  have HNM := Hd.mk hnm
  have HT := Hd.mk (And.intro hte htn)
  have HN16 := Hd.mk hc.ok.n1
  have HC := Hd.mk hc
  clear hc hnm hte htn
  unfold pV Dd.v
  go_enter Try.func9, Try.ntmps9
  go_upto_region 1 with (fail)
  refine wp_name ?_; intro w0 hw0
  have hf0 := alloc_of hw0
  have hb0 := blk_of (T := 39) (c := [.int .i64 d.kind, .string d.e.q.name, .int .u16 d.e.q.ty, .int .u16 d.e.q.cl, .slice d.e.ra d.e.rn d.e.rc, .int .i64 d.e.rcode, .int .i64 d.e.rank, .int .u64 d.e.expire, .int .u64 d.now]) hw0
  have hz0 : w0.heap.size = w.heap.size + 1 := by rw [hw0]; simp
  clear hw0
  obtain ⟨db, h_db⟩ : ∃ p, w.heap.size = p := ⟨_, rfl⟩
  rw [h_db] at hb0 ⊢
  have HDD : Hd (Blk w0.drew db 39 [.int .i64 d.kind, .string d.e.q.name, .int .u16 d.e.q.ty, .int .u16 d.e.q.cl, .slice d.e.ra d.e.rn d.e.rc, .int .i64 d.e.rcode, .int .i64 d.e.rank, .int .u64 d.e.expire, .int .u64 d.now]) := Hd.mk hb0.drew
  have HC0 := Hd.mk (HC.out.fr0 hf0)
  have HCP : Hd (Blk w0.drew C.pc 58 [.slice (some ⟨C.gp, 0, none⟩) C.ps.length C.cap, hv]) := Hd.mk HC0.out.blk.drew
  have HF0 := Hd.mk hf0
  have HZ := Hd.mk (And.intro hz0 h_db)
  have HDB := Hd.mk hb0
  clear hf0 hz0 h_db
  have c0 : w0.cell? ⟨db, 0, none⟩ = some (.int .i64 d.kind) := hb0.cell (i := 0) rfl
  clear hb0
  go_wp2_with fail
  clear c0
  refine wp_region_gs { R := Fr [], R1 := Fr [], gs := [Is (.pointer (some ⟨C.pc, 0, none⟩)), Is (.agg #[.int .i64 d.kind, .string d.e.q.name, .int .u16 d.e.q.ty, .int .u16 d.e.q.cl, .slice d.e.ra d.e.rn d.e.rc, .int .i64 d.e.rcode, .int .i64 d.e.rank, .int .u64 d.e.expire, .int .u64 d.now]), Is (.pointer (some ⟨db, 1, none⟩)), Is (.pointer (some ⟨db, 1, none⟩)), Is (.agg #[.string d.e.q.name, .int .u16 d.e.q.ty, .int .u16 d.e.q.cl]), Is (.pointer (some ⟨C.pc, 0, none⟩)), Is (.pointer (some ⟨C.pc, 0, none⟩)), Is (.pointer (some ⟨C.pc, 0, none⟩)), Is (.slice (some ⟨C.gp, 0, none⟩) C.ps.length C.cap), Is (.int .i64 C.ps.length), Is (.int .i64 (hashK d.e.q C.ps.length)), (fun (v : Value) (w2 : World) => ∃ sb, v = .slice (some ⟨sb, 0, none⟩) 1 1 ∧ Blk w2 sb 3 [.int .i64 (hashK d.e.q C.ps.length)] ∧ w0.heap.size ≤ sb), (fun (v : Value) (w2 : World) => ∃ sb, v = .agg #[.pointer (some ⟨C.pc, 0, none⟩), .int .i64 d.kind, .string d.e.q.name, .int .u16 d.e.q.ty, .int .u16 d.e.q.cl, .slice d.e.ra d.e.rn d.e.rc, .int .i64 d.e.rcode, .int .i64 d.e.rank, .int .u64 d.e.expire, .int .u64 d.now, .slice (some ⟨sb, 0, none⟩) 1 1, .bool false, .slice none 0 0] ∧ Blk w2 sb 3 [.int .i64 (hashK d.e.q C.ps.length)] ∧ w0.heap.size ≤ sb), (fun (v : Value) (w2 : World) => ∃ pj, v = .pointer (some ⟨pj, 0, none⟩) ∧ ∃ sb, Blk w2 pj 66 [.pointer (some ⟨C.pc, 0, none⟩), .int .i64 d.kind, .string d.e.q.name, .int .u16 d.e.q.ty, .int .u16 d.e.q.cl, .slice d.e.ra d.e.rn d.e.rc, .int .i64 d.e.rcode, .int .i64 d.e.rank, .int .u64 d.e.expire, .int .u64 d.now, .slice (some ⟨sb, 0, none⟩) 1 1, .bool false, .slice none 0 0] ∧ w0.heap.size ≤ pj ∧ Blk w2 sb 3 [.int .i64 (hashK d.e.q C.ps.length)] ∧ w0.heap.size ≤ sb), (fun (v : Value) (w2 : World) => ∃ pj, v = .pointer (some ⟨pj, 0, none⟩) ∧ ∃ sb, Blk w2 pj 66 [.pointer (some ⟨C.pc, 0, none⟩), .int .i64 d.kind, .string d.e.q.name, .int .u16 d.e.q.ty, .int .u16 d.e.q.cl, .slice d.e.ra d.e.rn d.e.rc, .int .i64 d.e.rcode, .int .i64 d.e.rank, .int .u64 d.e.expire, .int .u64 d.now, .slice (some ⟨sb, 0, none⟩) 1 1, .bool false, .slice none 0 0] ∧ w0.heap.size ≤ pj ∧ Blk w2 sb 3 [.int .i64 (hashK d.e.q C.ps.length)] ∧ w0.heap.size ≤ sb)], ds := [some 19, some 20, some 21, some 22, some 23, some 24, some 25, some 26, some 27, some 28, some 29, some 30, some 31, some 32, some 5], fl := [false, false, false, false, false, false, false, false, false, false, false, false, false, false, false], hs := [], hd := [] } [false, false, false, false, false, true, false, false, false, false, false, false, false, false, false, false, false, false, false, true, true, true, true, true, true, true, true, true, true, true, true, true, true, false, false, false, false, false, false, false, false, false, false, false, false, false, false, false, false, false, false, false, false, false, false, false, false, false, false] (by kernel_rfl) _ (by kernel_rfl) (by kernel_rfl) (by kernel_rfl) (by kernel_rfl) rfl [] (fun _ _ _ h1 h2 => h1.trans h2) (fun _ _ h => h) (staI (staI (staI (staI (staI (staI (staI (staI (staI (staI (staI (sta (fun v _ _ hf ⟨sb, h1, h2, h3⟩ => ⟨sb, h1, h2.fr hf (by simp), h3⟩) (sta (fun v _ _ hf ⟨sb, h1, h2, h3⟩ => ⟨sb, h1, h2.fr hf (by simp), h3⟩) (sta (fun v _ _ hf ⟨pj, h1, sb, h2, h3, h4, h5⟩ => ⟨pj, h1, sb, h2.fr hf (by simp), h3, h4.fr hf (by simp), h5⟩) (sta (fun v _ _ hf ⟨pj, h1, sb, h2, h3, h4, h5⟩ => ⟨pj, h1, sb, h2.fr hf (by simp), h3, h4.fr hf (by simp), h5⟩) sta0))))))))))))))) sth0 (fun _ _ h => h.size) _ (Fr.refl _ _) trivial ?_ ?_
  · refine ⟨?_, ?_, ?_, ?_, ?_, ?_, ?_, ?_, ?_, ?_, ?_, ?_, ?_, ?_, ?_, trivial⟩
    · intro σ w' hR hd
      simp only [fill, Nat.reduceAdd, if_true, Bool.false_eq_true, if_false]
      clear hd
      go_wp2
      exact ⟨Fr.refl _ _, rfl⟩
    · intro σ w' hR hd
      simp only [fill, Nat.reduceAdd, if_true, Bool.false_eq_true, if_false]
      clear hd
      have c0 : w'.cell? ⟨db, 0, none⟩ = some (.int .i64 d.kind) := (HDD.out.fr hR (by simp)).cell (i := 0) rfl
      have c1 : w'.cell? ⟨db, 1, none⟩ = some (.string d.e.q.name) := (HDD.out.fr hR (by simp)).cell (i := 1) rfl
      have c2 : w'.cell? ⟨db, 2, none⟩ = some (.int .u16 d.e.q.ty) := (HDD.out.fr hR (by simp)).cell (i := 2) rfl
      have c3 : w'.cell? ⟨db, 3, none⟩ = some (.int .u16 d.e.q.cl) := (HDD.out.fr hR (by simp)).cell (i := 3) rfl
      have c4 : w'.cell? ⟨db, 4, none⟩ = some (.slice d.e.ra d.e.rn d.e.rc) := (HDD.out.fr hR (by simp)).cell (i := 4) rfl
      have c5 : w'.cell? ⟨db, 5, none⟩ = some (.int .i64 d.e.rcode) := (HDD.out.fr hR (by simp)).cell (i := 5) rfl
      have c6 : w'.cell? ⟨db, 6, none⟩ = some (.int .i64 d.e.rank) := (HDD.out.fr hR (by simp)).cell (i := 6) rfl
      have c7 : w'.cell? ⟨db, 7, none⟩ = some (.int .u64 d.e.expire) := (HDD.out.fr hR (by simp)).cell (i := 7) rfl
      have c8 : w'.cell? ⟨db, 8, none⟩ = some (.int .u64 d.now) := (HDD.out.fr hR (by simp)).cell (i := 8) rfl
      go_wp2
      exact ⟨Fr.refl _ _, rfl⟩
    · intro σ w' hR hd
      simp only [fill, Nat.reduceAdd, if_true, Bool.false_eq_true, if_false]
      clear hd
      go_wp2
      exact ⟨Fr.refl _ _, rfl⟩
    · intro σ w' hR hd
      simp only [fill, Nat.reduceAdd, if_true, Bool.false_eq_true, if_false]
      obtain h21 : σ 21 = _ := hd 2 (by decide)
      rw [h21]
      clear h21
      clear hd
      go_wp2
      exact ⟨Fr.refl _ _, rfl⟩
    · intro σ w' hR hd
      simp only [fill, Nat.reduceAdd, if_true, Bool.false_eq_true, if_false]
      obtain h22 : σ 22 = _ := hd 3 (by decide)
      rw [h22]
      clear h22
      clear hd
      have c1 : w'.cell? ⟨db, 1, none⟩ = some (.string d.e.q.name) := (HDD.out.fr hR (by simp)).cell (i := 1) rfl
      have c2 : w'.cell? ⟨db, 2, none⟩ = some (.int .u16 d.e.q.ty) := (HDD.out.fr hR (by simp)).cell (i := 2) rfl
      have c3 : w'.cell? ⟨db, 3, none⟩ = some (.int .u16 d.e.q.cl) := (HDD.out.fr hR (by simp)).cell (i := 3) rfl
      go_wp2
      exact ⟨Fr.refl _ _, rfl⟩
    · intro σ w' hR hd
      simp only [fill, Nat.reduceAdd, if_true, Bool.false_eq_true, if_false]
      clear hd
      go_wp2
      exact ⟨Fr.refl _ _, rfl⟩
    · intro σ w' hR hd
      simp only [fill, Nat.reduceAdd, if_true, Bool.false_eq_true, if_false]
      obtain h24 : σ 24 = _ := hd 5 (by decide)
      rw [h24]
      clear h24
      clear hd
      go_wp2
      exact ⟨Fr.refl _ _, rfl⟩
    · intro σ w' hR hd
      simp only [fill, Nat.reduceAdd, if_true, Bool.false_eq_true, if_false]
      obtain h25 : σ 25 = _ := hd 6 (by decide)
      rw [h25]
      clear h25
      clear hd
      go_wp2
      exact ⟨Fr.refl _ _, rfl⟩
    · intro σ w' hR hd
      simp only [fill, Nat.reduceAdd, if_true, Bool.false_eq_true, if_false]
      obtain h26 : σ 26 = _ := hd 7 (by decide)
      rw [h26]
      clear h26
      clear hd
      have p0 : w'.cell? ⟨C.pc, 0, none⟩ = some (.slice (some ⟨C.gp, 0, none⟩) C.ps.length C.cap) := (HCP.out.fr hR (by simp)).cell (i := 0) rfl
      go_wp2
      exact ⟨Fr.refl _ _, rfl⟩
    · intro σ w' hR hd
      simp only [fill, Nat.reduceAdd, if_true, Bool.false_eq_true, if_false]
      obtain h27 : σ 27 = _ := hd 8 (by decide)
      rw [h27]
      clear h27
      clear hd
      go_wp2
      exact ⟨Fr.refl _ _, rfl⟩
    · intro σ w' hR hd
      simp only [fill, Nat.reduceAdd, if_true, Bool.false_eq_true, if_false]
      obtain h23 : σ 23 = _ := hd 4 (by decide)
      obtain h28 : σ 28 = _ := hd 9 (by decide)
      rw [h23, h28]
      clear h23 h28
      clear hd
      go_wp2_with fail
      refine (hash_calls d.e.q HNM.out C.ps.length HN16.out.1 HN16.out.2 _).mono ?_
      rintro r w4 ⟨rfl, hf4⟩
      have HF4 := Hd.mk hf4
      clear hf4
      go_wp2
      exact ⟨HF4.out, rfl⟩
    · intro σ w' hR hd
      simp only [fill, Nat.reduceAdd, if_true, Bool.false_eq_true, if_false]
      obtain h29 : σ 29 = _ := hd 10 (by decide)
      rw [h29]
      clear h29
      clear hd
      have HSZ : Hd (w0.heap.size ≤ w'.heap.size) := Hd.mk (show w0.drew.heap.size ≤ _ from Fr.size hR)
      have HNA : Hd (Fr [] w' (w'.alloc (.cells #[.int .i64 (hashK d.e.q C.ps.length)] 3)) ∧ Blk (w'.alloc (.cells #[.int .i64 (hashK d.e.q C.ps.length)] 3)) w'.heap.size 3 [.int .i64 (hashK d.e.q C.ps.length)]) := Hd.mk ⟨(Fr.refl _ _).alloc _, Blk.new _ _ _⟩
      go_wp2
      exact ⟨HNA.out.1, _, rfl, HNA.out.2, HSZ.out⟩
    · intro σ w' hR hd
      simp only [fill, Nat.reduceAdd, if_true, Bool.false_eq_true, if_false]
      obtain h19 : σ 19 = _ := hd 0 (by decide)
      obtain h20 : σ 20 = _ := hd 1 (by decide)
      obtain ⟨sb, h30, hsb, hsz⟩ : (fun (v : Value) (w2 : World) => ∃ sb, v = .slice (some ⟨sb, 0, none⟩) 1 1 ∧ Blk w2 sb 3 [.int .i64 (hashK d.e.q C.ps.length)] ∧ w0.heap.size ≤ sb) (σ 30) w' := hd 11 (by decide)
      rw [h19, h20, h30]
      clear h19 h20 h30
      clear hd
      have HSB := Hd.mk (And.intro hsb hsz)
      clear hsb hsz
      have hbj := build_job C.pc d sb
      go_wp2
      exact ⟨Fr.refl _ _, sb, rfl, HSB.out⟩
    · intro σ w' hR hd
      simp only [fill, Nat.reduceAdd, if_true, Bool.false_eq_true, if_false]
      obtain ⟨sb, h31, hsb, hsz⟩ : (fun (v : Value) (w2 : World) => ∃ sb, v = .agg #[.pointer (some ⟨C.pc, 0, none⟩), .int .i64 d.kind, .string d.e.q.name, .int .u16 d.e.q.ty, .int .u16 d.e.q.cl, .slice d.e.ra d.e.rn d.e.rc, .int .i64 d.e.rcode, .int .i64 d.e.rank, .int .u64 d.e.expire, .int .u64 d.now, .slice (some ⟨sb, 0, none⟩) 1 1, .bool false, .slice none 0 0] ∧ Blk w2 sb 3 [.int .i64 (hashK d.e.q C.ps.length)] ∧ w0.heap.size ≤ sb) (σ 31) w' := hd 12 (by decide)
      rw [h31]
      clear h31
      clear hd
      have HSB := Hd.mk (And.intro hsb hsz)
      clear hsb hsz
      have HSZ : Hd (w0.heap.size ≤ w'.heap.size) := Hd.mk (show w0.drew.heap.size ≤ _ from Fr.size hR)
      have HNA : Hd (Fr [] w' (w'.alloc (.cells #[.pointer (some ⟨C.pc, 0, none⟩), .int .i64 d.kind, .string d.e.q.name, .int .u16 d.e.q.ty, .int .u16 d.e.q.cl, .slice d.e.ra d.e.rn d.e.rc, .int .i64 d.e.rcode, .int .i64 d.e.rank, .int .u64 d.e.expire, .int .u64 d.now, .slice (some ⟨sb, 0, none⟩) 1 1, .bool false, .slice none 0 0] 66)) ∧ Blk (w'.alloc (.cells #[.pointer (some ⟨C.pc, 0, none⟩), .int .i64 d.kind, .string d.e.q.name, .int .u16 d.e.q.ty, .int .u16 d.e.q.cl, .slice d.e.ra d.e.rn d.e.rc, .int .i64 d.e.rcode, .int .i64 d.e.rank, .int .u64 d.e.expire, .int .u64 d.now, .slice (some ⟨sb, 0, none⟩) 1 1, .bool false, .slice none 0 0] 66)) w'.heap.size 66 [.pointer (some ⟨C.pc, 0, none⟩), .int .i64 d.kind, .string d.e.q.name, .int .u16 d.e.q.ty, .int .u16 d.e.q.cl, .slice d.e.ra d.e.rn d.e.rc, .int .i64 d.e.rcode, .int .i64 d.e.rank, .int .u64 d.e.expire, .int .u64 d.now, .slice (some ⟨sb, 0, none⟩) 1 1, .bool false, .slice none 0 0]) := Hd.mk ⟨(Fr.refl _ _).alloc _, Blk.new _ _ _⟩
      go_wp2
      exact ⟨HNA.out.1, _, rfl, sb, HNA.out.2, HSZ.out, HSB.out.1.fr HNA.out.1 (by simp), HSB.out.2⟩
    · intro σ w' hR hd
      simp only [fill, Nat.reduceAdd, if_true, Bool.false_eq_true, if_false]
      obtain ⟨pj, h32, sb, hpj, hpz, hsb, hsz⟩ : (fun (v : Value) (w2 : World) => ∃ pj, v = .pointer (some ⟨pj, 0, none⟩) ∧ ∃ sb, Blk w2 pj 66 [.pointer (some ⟨C.pc, 0, none⟩), .int .i64 d.kind, .string d.e.q.name, .int .u16 d.e.q.ty, .int .u16 d.e.q.cl, .slice d.e.ra d.e.rn d.e.rc, .int .i64 d.e.rcode, .int .i64 d.e.rank, .int .u64 d.e.expire, .int .u64 d.now, .slice (some ⟨sb, 0, none⟩) 1 1, .bool false, .slice none 0 0] ∧ w0.heap.size ≤ pj ∧ Blk w2 sb 3 [.int .i64 (hashK d.e.q C.ps.length)] ∧ w0.heap.size ≤ sb) (σ 32) w' := hd 13 (by decide)
      rw [h32]
      clear h32
      clear hd
      have HSB := Hd.mk (And.intro hpj (And.intro hpz (And.intro hsb hsz)))
      clear hpj hpz hsb hsz
      go_wp2
      exact ⟨Fr.refl _ _, pj, rfl, sb, HSB.out⟩
  · intro σ w3 hR hG hH
    obtain ⟨pj, h5, sb, hpj, hpz, hsb, hsz⟩ : (fun (v : Value) (w2 : World) => ∃ pj, v = .pointer (some ⟨pj, 0, none⟩) ∧ ∃ sb, Blk w2 pj 66 [.pointer (some ⟨C.pc, 0, none⟩), .int .i64 d.kind, .string d.e.q.name, .int .u16 d.e.q.ty, .int .u16 d.e.q.cl, .slice d.e.ra d.e.rn d.e.rc, .int .i64 d.e.rcode, .int .i64 d.e.rank, .int .u64 d.e.expire, .int .u64 d.now, .slice (some ⟨sb, 0, none⟩) 1 1, .bool false, .slice none 0 0] ∧ w0.heap.size ≤ pj ∧ Blk w2 sb 3 [.int .i64 (hashK d.e.q C.ps.length)] ∧ w0.heap.size ≤ sb) (σ 5) w3 := hG 14 (by decide)
    simp only [fill, Nat.reduceAdd, if_true, Bool.false_eq_true, if_false, h5]
    clear h5
    clear hG
    have hRR : Fr [] w0 w3 := (Fr.drew (Fr.refl _ _)).trans hR
    have HJ3 := Hd.mk (And.intro hpj (And.intro hpz (And.intro hsb hsz)))
    have HF3 := Hd.mk hRR
    have c0 : w3.cell? ⟨db, 0, none⟩ = some (.int .i64 d.kind) := (HDB.out.fr hRR (by simp)).cell (i := 0) rfl
    clear hR hH hpj hpz hsb hsz hRR
    have he : (d.kind == 4) = false := by rw [beq_eq_false_iff_ne]; omega
    go_wp2
    go_ret
    obtain ⟨hpj, hpz, hsb, hsz⟩ := HJ3.out
    have e0 := HC0.out.n0
    have e1 := HZ.out
    refine ⟨_, rfl, JAt.new hpj (by omega) ⟨_, 1, rfl, Nat.le_refl _, fun _ => ⟨sb, 0, _, rfl, by omega, hsb, fun i x hx => ?_⟩⟩ (fun i hi => ?_) (by omega) HT.out.1 HT.out.2, rfl, rfl, rfl, rfl, rfl, by show w.heap.size ≤ pj; omega, HF0.out.trans HF3.out⟩
    · cases i with
      | zero => simp at hx; simp [hx]
      | succ i => simp at hx
    · obtain rfl := List.mem_singleton.1 hi
      exact hash_lt _ HNM.out _ HN16.out.1 HN16.out.2
set_option maxRecDepth 100000 in
set_option maxHeartbeats 8000000 in
theorem begin_all {w : World} {C : CB} {hv : Value} {c : Cs} (hc : CAt w C hv c) (d : Dd) (hnm : d.e.q.name.size ≤ 1000000000000000) (hte : TOk d.e.expire) (htn : TOk d.now) (hk : d.kind = 4) : Calls Try.prog 9 #[pV C.pc, d.v] w fun r w' => ∃ j : Jb, r = .returned (pV j.p) ∧ JAt w' C j ∧ j.d = d ∧ j.left = List.range C.ps.length ∧ j.did = false ∧ j.ev = [] ∧ j.vv = .slice none 0 0 ∧ w.heap.size ≤ j.p ∧ Fr [] w w' := by
  have HK := Hd.mk hk
  have h1 : ¬ d.kind < 1 := by omega
  have h2 : ¬ 4 < d.kind := by omega
  have HNM := Hd.mk hnm
  have HT := Hd.mk (And.intro hte htn)
  have HN16 := Hd.mk hc.ok.n1
  have HC := Hd.mk hc
  clear hk
  clear hc hnm hte htn
  unfold pV Dd.v
  go_enter Try.func9, Try.ntmps9
  go_upto_region 1 with (fail)
  refine wp_name ?_; intro w0 hw0
  have hf0 := alloc_of hw0
  have hb0 := blk_of (T := 39) (c := [.int .i64 d.kind, .string d.e.q.name, .int .u16 d.e.q.ty, .int .u16 d.e.q.cl, .slice d.e.ra d.e.rn d.e.rc, .int .i64 d.e.rcode, .int .i64 d.e.rank, .int .u64 d.e.expire, .int .u64 d.now]) hw0
  have hz0 : w0.heap.size = w.heap.size + 1 := by rw [hw0]; simp
  clear hw0
  obtain ⟨db, h_db⟩ : ∃ p, w.heap.size = p := ⟨_, rfl⟩
  rw [h_db] at hb0 ⊢
  have HDD : Hd (Blk w0.drew db 39 [.int .i64 d.kind, .string d.e.q.name, .int .u16 d.e.q.ty, .int .u16 d.e.q.cl, .slice d.e.ra d.e.rn d.e.rc, .int .i64 d.e.rcode, .int .i64 d.e.rank, .int .u64 d.e.expire, .int .u64 d.now]) := Hd.mk hb0.drew
  have HC0 := Hd.mk (HC.out.fr0 hf0)
  have HCP : Hd (Blk w0.drew C.pc 58 [.slice (some ⟨C.gp, 0, none⟩) C.ps.length C.cap, hv]) := Hd.mk HC0.out.blk.drew
  have HF0 := Hd.mk hf0
  have HZ := Hd.mk (And.intro hz0 h_db)
  have HDB := Hd.mk hb0
  clear hf0 hz0 h_db
  have c0 : w0.cell? ⟨db, 0, none⟩ = some (.int .i64 d.kind) := hb0.cell (i := 0) rfl
  clear hb0
  go_wp2_with fail
  clear c0
  refine wp_region_gs { R := Fr [], R1 := Fr [], gs := [Is (.pointer (some ⟨C.pc, 0, none⟩)), Is (.agg #[.int .i64 d.kind, .string d.e.q.name, .int .u16 d.e.q.ty, .int .u16 d.e.q.cl, .slice d.e.ra d.e.rn d.e.rc, .int .i64 d.e.rcode, .int .i64 d.e.rank, .int .u64 d.e.expire, .int .u64 d.now]), Is (.pointer (some ⟨db, 1, none⟩)), Is (.pointer (some ⟨db, 1, none⟩)), Is (.agg #[.string d.e.q.name, .int .u16 d.e.q.ty, .int .u16 d.e.q.cl]), Is (.pointer (some ⟨C.pc, 0, none⟩)), Is (.pointer (some ⟨C.pc, 0, none⟩)), Is (.pointer (some ⟨C.pc, 0, none⟩)), Is (.slice (some ⟨C.gp, 0, none⟩) C.ps.length C.cap), Is (.int .i64 C.ps.length), Is (.int .i64 (hashK d.e.q C.ps.length)), (fun (v : Value) (w2 : World) => ∃ sb, v = .slice (some ⟨sb, 0, none⟩) 1 1 ∧ Blk w2 sb 3 [.int .i64 (hashK d.e.q C.ps.length)] ∧ w0.heap.size ≤ sb), (fun (v : Value) (w2 : World) => ∃ sb, v = .agg #[.pointer (some ⟨C.pc, 0, none⟩), .int .i64 d.kind, .string d.e.q.name, .int .u16 d.e.q.ty, .int .u16 d.e.q.cl, .slice d.e.ra d.e.rn d.e.rc, .int .i64 d.e.rcode, .int .i64 d.e.rank, .int .u64 d.e.expire, .int .u64 d.now, .slice (some ⟨sb, 0, none⟩) 1 1, .bool false, .slice none 0 0] ∧ Blk w2 sb 3 [.int .i64 (hashK d.e.q C.ps.length)] ∧ w0.heap.size ≤ sb), (fun (v : Value) (w2 : World) => ∃ pj, v = .pointer (some ⟨pj, 0, none⟩) ∧ ∃ sb, Blk w2 pj 66 [.pointer (some ⟨C.pc, 0, none⟩), .int .i64 d.kind, .string d.e.q.name, .int .u16 d.e.q.ty, .int .u16 d.e.q.cl, .slice d.e.ra d.e.rn d.e.rc, .int .i64 d.e.rcode, .int .i64 d.e.rank, .int .u64 d.e.expire, .int .u64 d.now, .slice (some ⟨sb, 0, none⟩) 1 1, .bool false, .slice none 0 0] ∧ w0.heap.size ≤ pj ∧ Blk w2 sb 3 [.int .i64 (hashK d.e.q C.ps.length)] ∧ w0.heap.size ≤ sb), (fun (v : Value) (w2 : World) => ∃ pj, v = .pointer (some ⟨pj, 0, none⟩) ∧ ∃ sb, Blk w2 pj 66 [.pointer (some ⟨C.pc, 0, none⟩), .int .i64 d.kind, .string d.e.q.name, .int .u16 d.e.q.ty, .int .u16 d.e.q.cl, .slice d.e.ra d.e.rn d.e.rc, .int .i64 d.e.rcode, .int .i64 d.e.rank, .int .u64 d.e.expire, .int .u64 d.now, .slice (some ⟨sb, 0, none⟩) 1 1, .bool false, .slice none 0 0] ∧ w0.heap.size ≤ pj ∧ Blk w2 sb 3 [.int .i64 (hashK d.e.q C.ps.length)] ∧ w0.heap.size ≤ sb)], ds := [some 19, some 20, some 21, some 22, some 23, some 24, some 25, some 26, some 27, some 28, some 29, some 30, some 31, some 32, some 5], fl := [false, false, false, false, false, false, false, false, false, false, false, false, false, false, false], hs := [], hd := [] } [false, false, false, false, false, true, false, false, false, false, false, false, false, false, false, false, false, false, false, true, true, true, true, true, true, true, true, true, true, true, true, true, true, false, false, false, false, false, false, false, false, false, false, false, false, false, false, false, false, false, false, false, false, false, false, false, false, false, false] (by kernel_rfl) _ (by kernel_rfl) (by kernel_rfl) (by kernel_rfl) (by kernel_rfl) rfl [] (fun _ _ _ h1 h2 => h1.trans h2) (fun _ _ h => h) (staI (staI (staI (staI (staI (staI (staI (staI (staI (staI (staI (sta (fun v _ _ hf ⟨sb, h1, h2, h3⟩ => ⟨sb, h1, h2.fr hf (by simp), h3⟩) (sta (fun v _ _ hf ⟨sb, h1, h2, h3⟩ => ⟨sb, h1, h2.fr hf (by simp), h3⟩) (sta (fun v _ _ hf ⟨pj, h1, sb, h2, h3, h4, h5⟩ => ⟨pj, h1, sb, h2.fr hf (by simp), h3, h4.fr hf (by simp), h5⟩) (sta (fun v _ _ hf ⟨pj, h1, sb, h2, h3, h4, h5⟩ => ⟨pj, h1, sb, h2.fr hf (by simp), h3, h4.fr hf (by simp), h5⟩) sta0))))))))))))))) sth0 (fun _ _ h => h.size) _ (Fr.refl _ _) trivial ?_ ?_
  · refine ⟨?_, ?_, ?_, ?_, ?_, ?_, ?_, ?_, ?_, ?_, ?_, ?_, ?_, ?_, ?_, trivial⟩
    · intro σ w' hR hd
      simp only [fill, Nat.reduceAdd, if_true, Bool.false_eq_true, if_false]
      clear hd
      go_wp2
      exact ⟨Fr.refl _ _, rfl⟩
    · intro σ w' hR hd
      simp only [fill, Nat.reduceAdd, if_true, Bool.false_eq_true, if_false]
      clear hd
      have c0 : w'.cell? ⟨db, 0, none⟩ = some (.int .i64 d.kind) := (HDD.out.fr hR (by simp)).cell (i := 0) rfl
      have c1 : w'.cell? ⟨db, 1, none⟩ = some (.string d.e.q.name) := (HDD.out.fr hR (by simp)).cell (i := 1) rfl
      have c2 : w'.cell? ⟨db, 2, none⟩ = some (.int .u16 d.e.q.ty) := (HDD.out.fr hR (by simp)).cell (i := 2) rfl
      have c3 : w'.cell? ⟨db, 3, none⟩ = some (.int .u16 d.e.q.cl) := (HDD.out.fr hR (by simp)).cell (i := 3) rfl
      have c4 : w'.cell? ⟨db, 4, none⟩ = some (.slice d.e.ra d.e.rn d.e.rc) := (HDD.out.fr hR (by simp)).cell (i := 4) rfl
      have c5 : w'.cell? ⟨db, 5, none⟩ = some (.int .i64 d.e.rcode) := (HDD.out.fr hR (by simp)).cell (i := 5) rfl
      have c6 : w'.cell? ⟨db, 6, none⟩ = some (.int .i64 d.e.rank) := (HDD.out.fr hR (by simp)).cell (i := 6) rfl
      have c7 : w'.cell? ⟨db, 7, none⟩ = some (.int .u64 d.e.expire) := (HDD.out.fr hR (by simp)).cell (i := 7) rfl
      have c8 : w'.cell? ⟨db, 8, none⟩ = some (.int .u64 d.now) := (HDD.out.fr hR (by simp)).cell (i := 8) rfl
      go_wp2
      exact ⟨Fr.refl _ _, rfl⟩
    · intro σ w' hR hd
      simp only [fill, Nat.reduceAdd, if_true, Bool.false_eq_true, if_false]
      clear hd
      go_wp2
      exact ⟨Fr.refl _ _, rfl⟩
    · intro σ w' hR hd
      simp only [fill, Nat.reduceAdd, if_true, Bool.false_eq_true, if_false]
      obtain h21 : σ 21 = _ := hd 2 (by decide)
      rw [h21]
      clear h21
      clear hd
      go_wp2
      exact ⟨Fr.refl _ _, rfl⟩
    · intro σ w' hR hd
      simp only [fill, Nat.reduceAdd, if_true, Bool.false_eq_true, if_false]
      obtain h22 : σ 22 = _ := hd 3 (by decide)
      rw [h22]
      clear h22
      clear hd
      have c1 : w'.cell? ⟨db, 1, none⟩ = some (.string d.e.q.name) := (HDD.out.fr hR (by simp)).cell (i := 1) rfl
      have c2 : w'.cell? ⟨db, 2, none⟩ = some (.int .u16 d.e.q.ty) := (HDD.out.fr hR (by simp)).cell (i := 2) rfl
      have c3 : w'.cell? ⟨db, 3, none⟩ = some (.int .u16 d.e.q.cl) := (HDD.out.fr hR (by simp)).cell (i := 3) rfl
      go_wp2
      exact ⟨Fr.refl _ _, rfl⟩
    · intro σ w' hR hd
      simp only [fill, Nat.reduceAdd, if_true, Bool.false_eq_true, if_false]
      clear hd
      go_wp2
      exact ⟨Fr.refl _ _, rfl⟩
    · intro σ w' hR hd
      simp only [fill, Nat.reduceAdd, if_true, Bool.false_eq_true, if_false]
      obtain h24 : σ 24 = _ := hd 5 (by decide)
      rw [h24]
      clear h24
      clear hd
      go_wp2
      exact ⟨Fr.refl _ _, rfl⟩
    · intro σ w' hR hd
      simp only [fill, Nat.reduceAdd, if_true, Bool.false_eq_true, if_false]
      obtain h25 : σ 25 = _ := hd 6 (by decide)
      rw [h25]
      clear h25
      clear hd
      go_wp2
      exact ⟨Fr.refl _ _, rfl⟩
    · intro σ w' hR hd
      simp only [fill, Nat.reduceAdd, if_true, Bool.false_eq_true, if_false]
      obtain h26 : σ 26 = _ := hd 7 (by decide)
      rw [h26]
      clear h26
      clear hd
      have p0 : w'.cell? ⟨C.pc, 0, none⟩ = some (.slice (some ⟨C.gp, 0, none⟩) C.ps.length C.cap) := (HCP.out.fr hR (by simp)).cell (i := 0) rfl
      go_wp2
      exact ⟨Fr.refl _ _, rfl⟩
    · intro σ w' hR hd
      simp only [fill, Nat.reduceAdd, if_true, Bool.false_eq_true, if_false]
      obtain h27 : σ 27 = _ := hd 8 (by decide)
      rw [h27]
      clear h27
      clear hd
      go_wp2
      exact ⟨Fr.refl _ _, rfl⟩
    · intro σ w' hR hd
      simp only [fill, Nat.reduceAdd, if_true, Bool.false_eq_true, if_false]
      obtain h23 : σ 23 = _ := hd 4 (by decide)
      obtain h28 : σ 28 = _ := hd 9 (by decide)
      rw [h23, h28]
      clear h23 h28
      clear hd
      go_wp2_with fail
      refine (hash_calls d.e.q HNM.out C.ps.length HN16.out.1 HN16.out.2 _).mono ?_
      rintro r w4 ⟨rfl, hf4⟩
      have HF4 := Hd.mk hf4
      clear hf4
      go_wp2
      exact ⟨HF4.out, rfl⟩
    · intro σ w' hR hd
      simp only [fill, Nat.reduceAdd, if_true, Bool.false_eq_true, if_false]
      obtain h29 : σ 29 = _ := hd 10 (by decide)
      rw [h29]
      clear h29
      clear hd
      have HSZ : Hd (w0.heap.size ≤ w'.heap.size) := Hd.mk (show w0.drew.heap.size ≤ _ from Fr.size hR)
      have HNA : Hd (Fr [] w' (w'.alloc (.cells #[.int .i64 (hashK d.e.q C.ps.length)] 3)) ∧ Blk (w'.alloc (.cells #[.int .i64 (hashK d.e.q C.ps.length)] 3)) w'.heap.size 3 [.int .i64 (hashK d.e.q C.ps.length)]) := Hd.mk ⟨(Fr.refl _ _).alloc _, Blk.new _ _ _⟩
      go_wp2
      exact ⟨HNA.out.1, _, rfl, HNA.out.2, HSZ.out⟩
    · intro σ w' hR hd
      simp only [fill, Nat.reduceAdd, if_true, Bool.false_eq_true, if_false]
      obtain h19 : σ 19 = _ := hd 0 (by decide)
      obtain h20 : σ 20 = _ := hd 1 (by decide)
      obtain ⟨sb, h30, hsb, hsz⟩ : (fun (v : Value) (w2 : World) => ∃ sb, v = .slice (some ⟨sb, 0, none⟩) 1 1 ∧ Blk w2 sb 3 [.int .i64 (hashK d.e.q C.ps.length)] ∧ w0.heap.size ≤ sb) (σ 30) w' := hd 11 (by decide)
      rw [h19, h20, h30]
      clear h19 h20 h30
      clear hd
      have HSB := Hd.mk (And.intro hsb hsz)
      clear hsb hsz
      have hbj := build_job C.pc d sb
      go_wp2
      exact ⟨Fr.refl _ _, sb, rfl, HSB.out⟩
    · intro σ w' hR hd
      simp only [fill, Nat.reduceAdd, if_true, Bool.false_eq_true, if_false]
      obtain ⟨sb, h31, hsb, hsz⟩ : (fun (v : Value) (w2 : World) => ∃ sb, v = .agg #[.pointer (some ⟨C.pc, 0, none⟩), .int .i64 d.kind, .string d.e.q.name, .int .u16 d.e.q.ty, .int .u16 d.e.q.cl, .slice d.e.ra d.e.rn d.e.rc, .int .i64 d.e.rcode, .int .i64 d.e.rank, .int .u64 d.e.expire, .int .u64 d.now, .slice (some ⟨sb, 0, none⟩) 1 1, .bool false, .slice none 0 0] ∧ Blk w2 sb 3 [.int .i64 (hashK d.e.q C.ps.length)] ∧ w0.heap.size ≤ sb) (σ 31) w' := hd 12 (by decide)
      rw [h31]
      clear h31
      clear hd
      have HSB := Hd.mk (And.intro hsb hsz)
      clear hsb hsz
      have HSZ : Hd (w0.heap.size ≤ w'.heap.size) := Hd.mk (show w0.drew.heap.size ≤ _ from Fr.size hR)
      have HNA : Hd (Fr [] w' (w'.alloc (.cells #[.pointer (some ⟨C.pc, 0, none⟩), .int .i64 d.kind, .string d.e.q.name, .int .u16 d.e.q.ty, .int .u16 d.e.q.cl, .slice d.e.ra d.e.rn d.e.rc, .int .i64 d.e.rcode, .int .i64 d.e.rank, .int .u64 d.e.expire, .int .u64 d.now, .slice (some ⟨sb, 0, none⟩) 1 1, .bool false, .slice none 0 0] 66)) ∧ Blk (w'.alloc (.cells #[.pointer (some ⟨C.pc, 0, none⟩), .int .i64 d.kind, .string d.e.q.name, .int .u16 d.e.q.ty, .int .u16 d.e.q.cl, .slice d.e.ra d.e.rn d.e.rc, .int .i64 d.e.rcode, .int .i64 d.e.rank, .int .u64 d.e.expire, .int .u64 d.now, .slice (some ⟨sb, 0, none⟩) 1 1, .bool false, .slice none 0 0] 66)) w'.heap.size 66 [.pointer (some ⟨C.pc, 0, none⟩), .int .i64 d.kind, .string d.e.q.name, .int .u16 d.e.q.ty, .int .u16 d.e.q.cl, .slice d.e.ra d.e.rn d.e.rc, .int .i64 d.e.rcode, .int .i64 d.e.rank, .int .u64 d.e.expire, .int .u64 d.now, .slice (some ⟨sb, 0, none⟩) 1 1, .bool false, .slice none 0 0]) := Hd.mk ⟨(Fr.refl _ _).alloc _, Blk.new _ _ _⟩
      go_wp2
      exact ⟨HNA.out.1, _, rfl, sb, HNA.out.2, HSZ.out, HSB.out.1.fr HNA.out.1 (by simp), HSB.out.2⟩
    · intro σ w' hR hd
      simp only [fill, Nat.reduceAdd, if_true, Bool.false_eq_true, if_false]
      obtain ⟨pj, h32, sb, hpj, hpz, hsb, hsz⟩ : (fun (v : Value) (w2 : World) => ∃ pj, v = .pointer (some ⟨pj, 0, none⟩) ∧ ∃ sb, Blk w2 pj 66 [.pointer (some ⟨C.pc, 0, none⟩), .int .i64 d.kind, .string d.e.q.name, .int .u16 d.e.q.ty, .int .u16 d.e.q.cl, .slice d.e.ra d.e.rn d.e.rc, .int .i64 d.e.rcode, .int .i64 d.e.rank, .int .u64 d.e.expire, .int .u64 d.now, .slice (some ⟨sb, 0, none⟩) 1 1, .bool false, .slice none 0 0] ∧ w0.heap.size ≤ pj ∧ Blk w2 sb 3 [.int .i64 (hashK d.e.q C.ps.length)] ∧ w0.heap.size ≤ sb) (σ 32) w' := hd 13 (by decide)
      rw [h32]
      clear h32
      clear hd
      have HSB := Hd.mk (And.intro hpj (And.intro hpz (And.intro hsb hsz)))
      clear hpj hpz hsb hsz
      go_wp2
      exact ⟨Fr.refl _ _, pj, rfl, sb, HSB.out⟩
  · intro σ w3 hR hG hH
    obtain ⟨pj, h5, sb, hpj, hpz, hsb, hsz⟩ : (fun (v : Value) (w2 : World) => ∃ pj, v = .pointer (some ⟨pj, 0, none⟩) ∧ ∃ sb, Blk w2 pj 66 [.pointer (some ⟨C.pc, 0, none⟩), .int .i64 d.kind, .string d.e.q.name, .int .u16 d.e.q.ty, .int .u16 d.e.q.cl, .slice d.e.ra d.e.rn d.e.rc, .int .i64 d.e.rcode, .int .i64 d.e.rank, .int .u64 d.e.expire, .int .u64 d.now, .slice (some ⟨sb, 0, none⟩) 1 1, .bool false, .slice none 0 0] ∧ w0.heap.size ≤ pj ∧ Blk w2 sb 3 [.int .i64 (hashK d.e.q C.ps.length)] ∧ w0.heap.size ≤ sb) (σ 5) w3 := hG 14 (by decide)
    simp only [fill, Nat.reduceAdd, if_true, Bool.false_eq_true, if_false, h5]
    clear h5
    clear hG
    have hRR : Fr [] w0 w3 := (Fr.drew (Fr.refl _ _)).trans hR
    have HJ3 := Hd.mk (And.intro hpj (And.intro hpz (And.intro hsb hsz)))
    have HF3 := Hd.mk hRR
    have c0 : w3.cell? ⟨db, 0, none⟩ = some (.int .i64 d.kind) := (HDB.out.fr hRR (by simp)).cell (i := 0) rfl
    clear hR hH hpj hpz hsb hsz hRR
    have he : (d.kind == 4) = true := by rw [beq_iff_eq]; exact HK.out
    have jf := HJ3.out.1.free 10
    have jc : w3.cell? ⟨pj, 10, none⟩ = some (.slice (some ⟨sb, 0, none⟩) 1 1) := HJ3.out.1.cell (i := 10) rfl
    go_upto_region 6 with (fail)
    refine wp_name ?_; intro w4 hw4
    have f4 : Fr [pj] w3 w4 := by rw [hw4]; exact fr_set
    have hb4 : Blk w4 pj 66 [.pointer (some ⟨C.pc, 0, none⟩), .int .i64 d.kind, .string d.e.q.name, .int .u16 d.e.q.ty, .int .u16 d.e.q.cl, .slice d.e.ra d.e.rn d.e.rc, .int .i64 d.e.rcode, .int .i64 d.e.rank, .int .u64 d.e.expire, .int .u64 d.now, .slice none 0 0, .bool false, .slice none 0 0] := by rw [hw4]; simpa using HJ3.out.1.set 10 (.slice none 0 0)
    clear hw4 jf jc c0
    have HPN : Hd (C.n0 ≤ pj ∧ w0.heap.size ≤ pj) := Hd.mk ⟨Nat.le_trans HC0.out.n0 HJ3.out.2.1, HJ3.out.2.1⟩
    have HC4 := Hd.mk ((HC0.out.fr0 HF3.out).blk.fr f4 (by simp; have := HC0.out.ok.pc; have := HPN.out; omega))
    have HF4 := Hd.mk (HF3.out.weak f4 (fun x hx => .inr (by obtain rfl := List.mem_singleton.1 hx; exact HPN.out.2)))
    have HB4 := Hd.mk hb4
    have HLP : Hd (pj < w4.heap.size) := Hd.mk hb4.lt
    have p0 : w4.cell? ⟨C.pc, 0, none⟩ = some (.slice (some ⟨C.gp, 0, none⟩) C.ps.length C.cap) := HC4.out.cell (i := 0) rfl
    clear f4 hb4
    go_wp2_with fail
    clear p0
    go_loopw [44] (fun i wr => ∃ (j : Nat) (lv : Value), j ≤ C.ps.length ∧ i = .int .i64 j ∧ Blk wr pj 66 [.pointer (some ⟨C.pc, 0, none⟩), .int .i64 d.kind, .string d.e.q.name, .int .u16 d.e.q.ty, .int .u16 d.e.q.cl, .slice d.e.ra d.e.rn d.e.rc, .int .i64 d.e.rcode, .int .i64 d.e.rank, .int .u64 d.e.expire, .int .u64 d.now, lv, .bool false, .slice none 0 0] ∧ wr.ownsRow w4.heap.size 3 1 lv j (ints (List.range j)) ∧ Fr [pj] w4 wr) (fun i _ => C.ps.length - (intOf i).toNat)
    case atStart => exact ⟨0, _, Nat.zero_le _, rfl, HB4.out, World.ownsRow_nil _ _ _ _, Fr.refl _ _⟩
    case round =>
      obtain ⟨j, lv, hj, rfl, hb, hown, hfr⟩ := hrel
      have HB := Hd.mk hb
      have HO := Hd.mk hown
      have HFR := Hd.mk hfr
      clear hb hfr
      by_cases hjn : j < C.ps.length
      · have hbz : w4.heap.size ≤ wr.heap.size := HFR.out.size
        have HNO : Hd (pj ∉ lv.ownBlock.toList) := Hd.mk fun hx => by
          have e1 := (HO.out.lt pj (by simpa using hx)).1
          have e2 := HLP.out
          omega
        have hj16 := HN16.out
        have b0 : wr.cell? ⟨pj, 10, none⟩ = some lv := HB.out.cell (i := 10) rfl
        go_upto_region 10 with (at_builtin; refine wpList_app1s elI rfl (.tmp 51) (.tmp 53) rfl hown rfl [.int .i64 j] rfl rfl (by simp [Value.oneCell']) (by omega) (by omega) hbz ?_; intro g9 c9 w9 ho9 hf9 hb9 hg9 hor9; have HO9 := Hd.mk ho9; have HF9 := Hd.mk hf9; have HG9 := Hd.mk (And.intro hb9 hg9); have q9 := HB.out.fr hf9 HNO.out; have bf : w9.frozen? ⟨pj, 10, none⟩ = false := q9.free 10; have bc : w9.cell? ⟨pj, 10, none⟩ = some lv := q9.cell (i := 10) rfl; have HQ9 := Hd.mk q9; clear ho9 hf9 hb9 hg9 hor9 q9 b0 hown hbz)
        refine wp_name ?_; intro w2 hw2
        have f2 : Fr [pj] w9 w2 := by rw [hw2]; exact fr_set
        have hb2 : Blk w2 pj 66 [.pointer (some ⟨C.pc, 0, none⟩), .int .i64 d.kind, .string d.e.q.name, .int .u16 d.e.q.ty, .int .u16 d.e.q.cl, .slice d.e.ra d.e.rn d.e.rc, .int .i64 d.e.rcode, .int .i64 d.e.rank, .int .u64 d.e.expire, .int .u64 d.now, .slice (some ⟨g9, 0, none⟩) (j + 1) c9, .bool false, .slice none 0 0] := by rw [hw2]; simpa using HQ9.out.set 10 (.slice (some ⟨g9, 0, none⟩) (j + 1) c9)
        clear hw2 bf bc
        have HB2 := Hd.mk hb2
        have HO2 := Hd.mk (own_fr HO9.out f2 (by have := HG9.out; have := HLP.out; simp [Value.ownBlock]; omega))
        have HF2 := Hd.mk ((HFR.out.weak HF9.out (fun x hx => .inr (HO.out.lt x (by simpa using hx)).1)).trans f2)
        clear f2 hb2
        go_wp2
        go_roundw
        case rel => exact ⟨j + 1, _, by omega, by go_num, HB2.out, by rw [List.range_succ]; simpa [ints] using HO2.out, HF2.out⟩
        case measure => simp [intOf]; omega
      · have hje : j = C.ps.length := by omega
        subst hje
        clear hown
        go_wp2_with fail
        go_ret
        have e0 := HC0.out.n0
        have e1 := HZ.out
        have e2 := HN16.out
        have e3 := HPN.out
        obtain ⟨gx, cx, rfl, hgx, -⟩ := own_form HO.out (by omega)
        have hcap : C.ps.length ≤ cx := by
          rcases HO.out.2 with ⟨h0, -⟩ | ⟨g', cap', cur, h0, -, -, hnc, -⟩
          · cases h0
          · cases h0; exact hnc
        obtain ⟨cs, hcs⟩ := own_is_blk HO.out
        have e4 := HF4.out.size
        refine ⟨⟨pj, d, List.range C.ps.length, _, false, [], .slice none 0 0⟩, rfl, JAt.new (l := List.range C.ps.length) HB.out e3.1 ⟨_, cx, by rw [List.length_range], by rw [List.length_range]; exact hcap, fun _ => ⟨gx, 0, cs, rfl, by omega, hcs, fun i x hx => ?_⟩⟩ (fun i hi => by simpa using hi) (by have := HK.out; omega) HT.out.1 HT.out.2, rfl, rfl, rfl, rfl, rfl, by show w.heap.size ≤ pj; omega, HF0.out.trans (HF4.out.weak HFR.out (fun x hx => .inr (by obtain rfl := List.mem_singleton.1 hx; exact e3.2)))⟩
        have h2 := own_cell (j := i) (v := .int .i64 x) HO.out (by unfold ints; rw [List.getElem?_map, hx]; rfl)
        have h3 : wr.heap[gx]? = some (.cells cs.toArray 3 (0, 0)) := hcs
        rw [Nat.zero_add]
        simpa [World.cell?, h3] using h2
end Go.Proofs.Ytogjfcmclfehkaa
namespace Go.Proofs.Ytogjfcmclfehkaa
open Go Go.RowKit Go.Proofs.MapL PPM Go.Proofs.YtogjfcmclfehkaaW.PrintWords

theorem ev_cells {w : World} {base : Nat} {v : Value} {l : List Ev} (h : EvRow w base v l) : ∀ u ∈ l.flatMap Ev.c, u.oneCell' = true := by
  intro u hu
  obtain ⟨e, he, hu⟩ := List.mem_flatMap.1 hu
  obtain ⟨A, c, hg, -⟩ := own_any (h.gone e he)
  simp only [Ev.c, evc, List.mem_cons, List.not_mem_nil, or_false] at hu
  rcases hu with h | h | h | h | h | h | h | h | h | h | h | h | h | h | h | h | h | h | h | h <;> rw [h] <;> first | rfl | (rw [hg]; rfl)
theorem ev_flat (l : List Ev) : (l.flatMap Ev.c).length = l.length * 20 := flat_len ev_len l
theorem sizeEv (w : World) : (Go.sizeOf 47).run Try.prog w = .ok 20 w := by
  obtain ⟨i, hi, -, hsz, -⟩ := info_parts elEv.info
  simp [sizeOf, typeInfo, hi, hsz]
/-- A copy of events. -/
theorem clone_calls {w : World} {base : Nat} {v : Value} {l : List Ev} (h : EvRow w base v l) (hl : l.length ≤ 1000000) : Calls Try.prog 21 #[v] w fun r w' => ∃ v', r = .returned v' ∧ w'.ownsRow w.heap.size 47 20 v' l.length (l.flatMap Ev.c) ∧ Fr [] w w' := by
  rcases h.row.2 with ⟨rfl, h0⟩ | ⟨g, cap, cur, rfl, -⟩
  · have h1 := AnyE.slices_Clone_nil Try.cloneEv 0 0 w
    change Calls Try.prog 21 #[.slice none 0 0] w _ at h1
    refine h1.mono ?_
    rintro r w' ⟨rfl, rfl⟩
    have hn : l = [] := List.eq_nil_of_length_eq_zero (by omega)
    subst hn
    exact ⟨_, rfl, World.ownsRow_nil _ _ _ _, Fr.refl _ _⟩
  · obtain ⟨i, hi, hz, hsz, hb⟩ := info_parts elEv.info
    have h1 := AnyE.slices_Clone Try.cloneEv i _ 20 208 hi hz hsz hb elEv.zs elEv.pos sizeEv g 0 l.length cap (l.flatMap Ev.c) w (ev_flat l) (by unfold maxLen; omega) (by omega) (fun j u hu => by
      have h2 := own_cells h.row j u hu
      rw [add_at] at h2
      exact h2) (ev_cells h)
    change Calls Try.prog 21 #[.slice (some ⟨g, 0, none⟩) l.length cap] w _ at h1
    refine h1.mono ?_
    rintro r w' ⟨v', rfl, ho, -, hbl⟩
    exact ⟨v', rfl, ho, fr_below hbl⟩
theorem events_calls {w : World} {C : CB} {j : Jb} (hj : JAt w C j) (hl : j.ev.length ≤ 1000000) : Calls Try.prog 12 #[pV j.p] w fun r w' => ∃ v', r = .returned v' ∧ w'.ownsRow w.heap.size 47 20 v' j.ev.length (j.ev.flatMap Ev.c) ∧ Fr [] w w' := by
  have j12 : w.cell? ⟨j.p, 12, none⟩ = some j.vv := hj.blk.cell (i := 12) rfl
  have HCL := Hd.mk (clone_calls hj.ev hl)
  clear hj hl
  unfold pV
  go_enter Try.func12, Try.ntmps12
  go_wp2_with fail
  refine HCL.out.mono ?_
  rintro r w' ⟨v', rfl, ho, hf⟩
  have HO := Hd.mk ho
  have HF := Hd.mk hf
  clear ho hf j12 HCL
  go_wp2
  go_ret
  exact ⟨v', rfl, HO.out, HF.out⟩
theorem history_calls {w : World} {C : CB} {hv : Value} {c : Cs} (hc : CAt w C hv c) (hl : c.hist.length ≤ 1000000) : Calls Try.prog 13 #[pV C.pc] w fun r w' => ∃ v', r = .returned v' ∧ w'.ownsRow w.heap.size 47 20 v' c.hist.length (c.hist.flatMap Ev.c) ∧ Fr [] w w' := by
  have c1 : w.cell? ⟨C.pc, 1, none⟩ = some hv := hc.blk.cell (i := 1) rfl
  have HCL := Hd.mk (clone_calls hc.hist hl)
  clear hc hl
  unfold pV
  go_enter Try.func13, Try.ntmps13
  go_wp2_with fail
  refine HCL.out.mono ?_
  rintro r w' ⟨v', rfl, ho, hf⟩
  have HO := Hd.mk ho
  have HF := Hd.mk hf
  clear ho hf c1 HCL
  go_wp2
  go_ret
  exact ⟨v', rfl, HO.out, HF.out⟩
/-! ### free -/
def heldB (c : Cs) (i : Nat) : Bool := ((c.who[i]?).join).isSome
abbrev lit (n : Nat) : Type := { i : Nat // i < n }
theorem free_pred {w : World} {C : CB} {hv : Value} {c : Cs} {j : Jb} {b : Nat} (hc : CAt w C hv c) (hj : JAt w C j) (hb : Blk w b 29 [pV j.p]) :
    PredAt Try.prog 36 #[.pointer (some ⟨b, 0, none⟩)] (fun (x : lit C.ps.length) => .int .i64 x.1) (fun x => heldB c x.1) w := fun W x hbl => by
  have hf : Fr [] w W := fr_below hbl
  have hc := hc.fr0 hf
  have hj := hj.fr0 hf
  have hb := hb.fr hf (by simp)
  clear hf hbl
  obtain ⟨i, hi⟩ := x
  obtain ⟨p, hp⟩ : ∃ p, C.ps[i]? = some p := ⟨_, List.getElem?_eq_getElem hi⟩
  obtain ⟨B, hB⟩ : ∃ B, C.Bs[i]? = some B := ⟨_, List.getElem?_eq_getElem (by rw [hc.ok.len]; exact hi)⟩
  obtain ⟨s, hs⟩ : ∃ s, c.ss[i]? = some s := ⟨_, List.getElem?_eq_getElem (by rw [hc.sl]; exact hi)⟩
  obtain ⟨o, ho⟩ : ∃ o, c.who[i]? = some o := ⟨_, List.getElem?_eq_getElem (by rw [hc.wl]; exact hi)⟩
  have hpt := hc.pt i p B s o hp hB hs ho
  obtain ⟨rs, hrow, hrc⟩ := hc.row
  have e0 : W.cell? ⟨b, 0, none⟩ = some (.pointer (some ⟨j.p, 0, none⟩)) := hb.cell (i := 0) rfl
  have e1 : W.cell? ⟨j.p, 0, none⟩ = some (.pointer (some ⟨C.pc, 0, none⟩)) := hj.blk.cell (i := 0) rfl
  have e2 : W.cell? ⟨C.pc, 0, none⟩ = some (.slice (some ⟨C.gp, 0, none⟩) C.ps.length C.cap) := hc.blk.cell (i := 0) rfl
  have e3 : W.cell? ⟨C.gp, i, none⟩ = some (.pointer (some ⟨p, 0, none⟩)) := hrow.cell (hrc i p hp)
  have e4 : W.cell? ⟨p, 1, none⟩ = some (whoV o) := hpt.blk.cell (i := 1) rfl
  have he : heldB c i = o.isSome := by unfold heldB; rw [ho]; rfl
  have hn16 := hc.ok.n1
  show FnGives Try.prog 36 _ _ (.bool (heldB c i)) W
  rw [he]
  clear hc hj hb hpt hrow hrc hp hB hs ho he
  show Calls Try.prog 36 #[.int .i64 i, .pointer (some ⟨b, 0, none⟩)] W _
  unfold whoV at e4
  cases o with
  | none =>
    simp only [Option.map_none] at e4
    go_enter Try.func36, Try.ntmps36
    go_wp2
    go_ret
    exact ⟨rfl, 0, rfl⟩
  | some q =>
    simp only [Option.map_some] at e4
    go_enter Try.func36, Try.ntmps36
    go_wp2
    go_ret
    exact ⟨rfl, 0, rfl⟩
theorem jfree_nil (w : World) : Calls Try.prog 22 #[.pointer none] w fun r w' => r = .returned (.bool false) ∧ Fr [] w w' := by
  have HF := Hd.mk ((Fr.refl [] w).alloc (.cells #[.pointer none] 29))
  go_enter Try.func22, Try.ntmps22
  go_wp2
  go_ret
  exact ⟨rfl, HF.out⟩
theorem any_pmap' {n : Nat} {p : Nat → Bool} : ∀ (l : List Nat) (h : ∀ i ∈ l, i < n), ((l.pmap (fun i hi => (⟨i, hi⟩ : lit n)) h).any fun x => p x.1) = l.any p := by
  intro l
  induction l with
  | nil => intro h; rfl
  | cons a l ih => intro h; simp only [List.pmap_cons, List.any_cons]; rw [ih]
theorem free_calls {w : World} {C : CB} {hv : Value} {c : Cs} {j : Jb} (hc : CAt w C hv c) (hj : JAt w C j) (h0 : 0 < j.left.length) (h16 : j.left.length ≤ 1000) : Calls Try.prog 22 #[pV j.p] w fun r w' => r = .returned (.bool (!(j.left.any (heldB c)))) ∧ Fr [] w w' := by
  have HC := Hd.mk hc
  have HJ := Hd.mk hj
  obtain ⟨A0, cl, hlv, hcl, hle⟩ := hj.left.at_
  obtain ⟨g, off, cs, rfl, hg, hgb, hgc⟩ := hle h0
  have HLV := Hd.mk hlv
  have HGC := Hd.mk (And.intro hgb hgc)
  have hok := hj.ok
  clear hc hj hlv hle hg hgb hgc
  unfold pV
  go_enter Try.func22, Try.ntmps22
  go_upto_region 1 with (fail)
  refine wp_name ?_; intro w0 hw0
  have hf0 := alloc_of hw0
  have hb0 := blk_of (T := 29) (c := [.pointer (some ⟨j.p, 0, none⟩)]) hw0
  clear hw0
  obtain ⟨b, h_b⟩ : ∃ p, w.heap.size = p := ⟨_, rfl⟩
  rw [h_b] at hb0 ⊢
  have HF0 := Hd.mk hf0
  have HC0 := Hd.mk (HC.out.fr0 hf0)
  have HJ0 := Hd.mk (HJ.out.fr0 hf0)
  have b0 : w0.cell? ⟨b, 0, none⟩ = some (.pointer (some ⟨j.p, 0, none⟩)) := hb0.cell (i := 0) rfl
  have j10 : w0.cell? ⟨j.p, 10, none⟩ = some j.lv := HJ0.out.blk.cell (i := 10) rfl
  rw [HLV.out] at j10
  have HCON : Hd (Calls Try.prog 35 #[.slice (some ⟨g, off, none⟩) j.left.length cl, .func (.func 36) #[] #[.pointer (some ⟨b, 0, none⟩)]] w0 fun e w' => e = .returned (.bool (j.left.any (heldB c))) ∧ ∃ q, w' = w0.drewN q) := Hd.mk (by
    have hN : 0 < C.ps.length := by have := HC.out.ok.n1; omega
    haveI : Inhabited (lit C.ps.length) := ⟨⟨0, hN⟩⟩
    have eg : ∀ args w, (callFunc 36 args).run Try.prog w = .ok (.enter 36 args) w := enters_of Try.func36 (by kernel_rfl) rfl
    have hll : (j.left.pmap (fun i hi => (⟨i, hi⟩ : lit C.ps.length)) hok).length = j.left.length := List.length_pmap ..
    have h1 := AnyE.slices_ContainsFunc Try.contF (fun (x : lit C.ps.length) => .int .i64 x.1) (fun x => heldB c x.1) 36 #[.pointer (some ⟨b, 0, none⟩)] eg g off j.left.length cl (j.left.pmap (fun i hi => (⟨i, hi⟩ : lit C.ps.length)) hok) w0 (free_pred HC0.out HJ0.out hb0) (Nat.le_of_eq hll.symm) (by omega) (fun k hk => by
      have hk' : k < j.left.length := by rw [← hll]; exact hk
      have h2 := (HGC.out.1.fr hf0 (by simp)).cell (HGC.out.2 k _ (List.getElem?_eq_getElem hk'))
      rw [h2, getElem!_pos _ k hk]
      simp)
    change Calls Try.prog 35 _ w0 _ at h1
    rw [List.take_of_length_le (Nat.le_of_eq hll), any_pmap'] at h1
    exact h1)
  clear hok hb0 hf0 h_b hcl
  go_wp2_with fail
  refine HCON.out.mono ?_
  rintro r w' ⟨rfl, q, rfl⟩
  have HFQ : Hd (Fr [] w (w0.drewN q)) := Hd.mk (HF0.out.drewN q)
  clear b0 j10 HCON
  obtain ⟨r, hr⟩ : ∃ r, j.left.any (heldB c) = r := ⟨_, rfl⟩
  have HR := Hd.mk hr
  rw [hr]
  clear hr
  go_wp2
  go_ret
  rw [HR.out]
  exact ⟨rfl, HFQ.out⟩
end Go.Proofs.Ytogjfcmclfehkaa
namespace Go.Proofs.Ytogjfcmclfehkaa
open Go Go.RowKit Go.Proofs.MapL PPM Go.Proofs.YtogjfcmclfehkaaW.PrintWords

def ssAt (l : List SS) (i : Nat) : SS := (l[i]?).getD ⟨[], 0⟩
/-- What a deed makes of shards, one behind the other. -/
def finS (d : Dd) : List SS → List Nat → List SS
  | ss, [] => ss
  | ss, i :: r => finS d (ss.set i (doneS (ssAt ss i) d)) r
/-- What it tells of them. -/
def finE (d : Dd) : List SS → List Nat → List (Nat × Tell)
  | _, [] => []
  | ss, i :: r => (i, doneT (ssAt ss i) d) :: finE d (ss.set i (doneS (ssAt ss i) d)) r
def tells (l : List Ev) : List (Nat × Tell) := l.map fun e => (e.i, e.t)
theorem finE_len (d : Dd) : ∀ (l : List Nat) (ss : List SS), (finE d ss l).length = l.length := by
  intro l
  induction l with
  | nil => intro ss; rfl
  | cons a l ih => intro ss; simp [finE, ih]
theorem finS_len (d : Dd) : ∀ (l : List Nat) (ss : List SS), (finS d ss l).length = ss.length := by
  intro l
  induction l with
  | nil => intro ss; rfl
  | cons a l ih => intro ss; simp [finS, ih]
def noW (n : Nat) : List (Option Nat) := List.replicate n none
theorem noW_get {n i : Nat} (h : i < n) : (noW n)[i]? = some none := by unfold noW; rw [List.getElem?_replicate, if_pos h]
theorem noW_back {n i : Nat} {o : Option Nat} : ((noW n).set i o).set i none = noW n := by
  rw [List.set_set]
  apply List.ext_getElem?
  intro k
  rw [List.getElem?_set]
  split
  · rename_i e
    subst e
    unfold noW
    split
    · rename_i h
      simp only [List.length_replicate] at h
      rw [List.getElem?_replicate, if_pos h]
    · rename_i h
      simp only [List.length_replicate] at h
      rw [List.getElem?_replicate, if_neg h]
  · rfl
/-- A deed that is done alone, k steps ahead of its end. -/
structure DoP (w0 : World) (C : CB) (hv0 : Value) (d : Dd) (F : List SS) (E : List (Nat × Tell)) (H0 : List Ev) (k : Nat) (hv : Value) (c : Cs) (j : Jb) : Prop where
  dd : j.d = d
  h : c.hist = H0 ++ j.ev
  hd : ∀ e ∈ j.ev, e.d = d
  hb : H0.length + E.length ≤ 999999
  own : ∀ x, hv.ownBlock = some x → hv0.ownBlock = some x ∨ w0.heap.size ≤ x
  vown : ∀ x, j.vv.ownBlock = some x → w0.heap.size ≤ x
  ne : ∀ x, hv.ownBlock = some x → j.vv.ownBlock ≠ some x
  ph : (j.did = false ∧ c.who = noW C.ps.length ∧ finS d c.ss j.left = F ∧ tells j.ev ++ finE d c.ss j.left = E ∧ k = 3 * j.left.length) ∨
    ∃ i r, j.left = i :: r ∧ c.who = (noW C.ps.length).set i (some j.p) ∧ ((j.did = false ∧ finS d c.ss j.left = F ∧ tells j.ev ++ finE d c.ss j.left = E ∧ k + 1 = 3 * j.left.length) ∨ (j.did = true ∧ finS d c.ss r = F ∧ tells j.ev ++ finE d c.ss r = E ∧ k + 2 = 3 * j.left.length))
theorem tells_len (l : List Ev) : (tells l).length = l.length := List.length_map _
theorem DoP.done {w0 : World} {C : CB} {hv0 : Value} {d : Dd} {F : List SS} {E : List (Nat × Tell)} {H0 : List Ev} {hv : Value} {c : Cs} {j : Jb} (h : DoP w0 C hv0 d F E H0 0 hv c j) : c.ss = F ∧ tells j.ev = E ∧ c.who = noW C.ps.length := by
  rcases h.ph with ⟨-, h1, h2, h3, h4⟩ | ⟨i, r, h0, -, ⟨-, -, -, h4⟩ | ⟨-, -, -, h4⟩⟩
  · have hl : j.left = [] := List.eq_nil_of_length_eq_zero (by omega)
    rw [hl] at h2 h3
    exact ⟨h2, by simpa [finE] using h3, h1⟩
  · rw [h0, List.length_cons] at h4; omega
  · rw [h0, List.length_cons] at h4; omega
theorem CB.wr_ps {C : CB} {p : Nat} (h : p ∈ C.ps) : p ∈ C.wr := by unfold CB.wr; simp [h]
theorem CB.wr_bs {C : CB} {B : ShB} (h : B ∈ C.Bs) {x : Nat} (hx : x ∈ B.wr) : x ∈ C.wr := by
  unfold CB.wr
  simp only [List.mem_cons, List.mem_append, List.mem_flatMap]
  exact .inr (.inr ⟨B, h, hx⟩)
theorem CAt.at {w : World} {C : CB} {hv : Value} {c : Cs} (hc : CAt w C hv c) {i : Nat} (hi : i < C.ps.length) : ∃ p B s, C.ps[i]? = some p ∧ C.Bs[i]? = some B ∧ c.ss[i]? = some s ∧ s = ssAt c.ss i ∧ p ∈ C.ps ∧ B ∈ C.Bs := by
  have h1 : C.ps[i]? = some C.ps[i] := List.getElem?_eq_getElem hi
  have h2 : C.Bs[i]? = some (C.Bs[i]'(by rw [hc.ok.len]; exact hi)) := List.getElem?_eq_getElem (by rw [hc.ok.len]; exact hi)
  have h3 : c.ss[i]? = some (c.ss[i]'(by rw [hc.sl]; exact hi)) := List.getElem?_eq_getElem (by rw [hc.sl]; exact hi)
  exact ⟨_, _, _, h1, h2, h3, by unfold ssAt; rw [h3]; rfl, List.mem_of_getElem? h1, List.mem_of_getElem? h2⟩
def DoNext (w0 : World) (C : CB) (hv0 : Value) (d : Dd) (F : List SS) (E : List (Nat × Tell)) (H0 : List Ev) (k : Nat) (pj : Nat) (r : Ending) (w' : World) : Prop := r = .returned (.bool (decide (k = 0))) ∧ ∃ hv' c' j', j'.p = pj ∧ CAt w' C hv' c' ∧ JAt w' C j' ∧ DoP w0 C hv0 d F E H0 k hv' c' j' ∧ Fr (C.wr ++ hv0.ownBlock.toList) w0 w'
theorem do_step {w0 : World} {C : CB} {hv0 : Value} {d : Dd} {F : List SS} {E : List (Nat × Tell)} {H0 : List Ev} {k : Nat} {hv : Value} {c : Cs} {j : Jb} {w : World} (hc : CAt w C hv c) (hj : JAt w C j) (h : DoP w0 C hv0 d F E H0 (k + 1) hv c j) (hf : Fr (C.wr ++ hv0.ownBlock.toList) w0 w) (hpj : w0.heap.size ≤ j.p) : Calls Try.prog 11 #[pV j.p] w (DoNext w0 C hv0 d F E H0 k j.p) := by
  have hel : j.ev.length ≤ E.length := by
    rcases h.ph with ⟨-, -, -, h3, -⟩ | ⟨i, r, -, -, ⟨-, -, h3, -⟩ | ⟨-, -, h3, -⟩⟩
    all_goals
      have := congrArg List.length h3
      rw [List.length_append, tells_len] at this
      omega
  rcases h.ph with ⟨h1, h2, h3, h4, h5⟩ | ⟨i, r, hl, h2, ⟨h1, h3, h4, h5⟩ | ⟨h1, h3, h4, h5⟩⟩
  · obtain ⟨i, r, hl⟩ : ∃ i r, j.left = i :: r := by
      cases hh : j.left with
      | nil => rw [hh] at h5; simp at h5
      | cons i r => exact ⟨i, r, rfl⟩
    obtain ⟨p, B, s, hp, hB, hs, -, hpm, -⟩ := hc.at (hj.ok i (by rw [hl]; exact List.mem_cons_self))
    have hil := (List.getElem?_eq_some_iff.1 hp).1
    refine (step_lock hc hj hl hp hB hs (by rw [h2]; exact noW_get hil)).mono ?_
    rintro x w' ⟨rfl, hc', hj', hf'⟩
    refine ⟨by rw [decide_eq_false (by rw [hl, List.length_cons] at h5; omega)], hv, _, j, rfl, hc', hj', ⟨h.dd, h.h, h.hd, h.hb, h.own, h.vown, h.ne, .inr ⟨i, r, hl, by rw [h2], .inl ⟨h1, h3, h4, h5⟩⟩⟩, hf.trans (hf'.mono fun x hx => ?_)⟩
    obtain rfl := List.mem_singleton.1 hx
    exact List.mem_append_left _ (CB.wr_ps hpm)
  · obtain ⟨p, B, s, hp, hB, hs, hse, hpm, hBm⟩ := hc.at (hj.ok i (by rw [hl]; exact List.mem_cons_self))
    have hil := (List.getElem?_eq_some_iff.1 hp).1
    have hcl : c.hist.length < 1000000 := by rw [h.h, List.length_append]; have := h.hb; omega
    refine (step_do hc hj hl hp hB hs (by rw [h2, List.getElem?_set]; simp [noW, hil]) h1 hcl (by have := h.hb; omega) h.ne).mono ?_
    rintro x w' ⟨hv', vv', gv, rfl, hc', hj', hf', ho1, ho2, ho3⟩
    have hz := hf.size
    refine ⟨by rw [decide_eq_false (by rw [hl, List.length_cons] at h5; omega)], hv', _, { j with did := true, ev := j.ev ++ [⟨j.d, i, doneT s j.d, gv⟩], vv := vv' }, rfl, hc', hj', ⟨h.dd, ?_, ?_, h.hb, fun x hx => ?_, fun x hx => ?_, ho3, .inr ⟨i, r, hl, h2, .inr ⟨rfl, ?_, ?_, h5⟩⟩⟩, hf.weak hf' fun x hx => ?_⟩
    · show c.hist ++ _ = H0 ++ (j.ev ++ _)
      rw [h.h, List.append_assoc]
    · intro e he
      rcases List.mem_append.1 he with he | he
      · exact h.hd e he
      · obtain rfl := List.mem_singleton.1 he
        exact h.dd
    · rcases ho1 x hx with h6 | h6
      · exact h.own x h6
      · exact .inr (by omega)
    · rcases ho2 x hx with h6 | h6
      · exact h.vown x h6
      · omega
    · rw [hl] at h3
      rw [← h3, hse, h.dd]; rfl
    · rw [hl] at h4
      rw [← h4, hse, h.dd]
      simp [tells, finE]
    · simp only [List.mem_cons, List.mem_append] at hx
      rcases hx with rfl | rfl | (hx | hx) | hx
      · exact .inr hpj
      · exact .inl (List.mem_append_left _ (by unfold CB.wr; exact List.mem_cons_self))
      · rcases h.own x (by simpa using hx) with h6 | h6
        · exact .inl (List.mem_append_right _ (by simpa using h6))
        · exact .inr h6
      · exact .inr (h.vown x (by simpa using hx))
      · exact .inl (List.mem_append_left _ (CB.wr_bs hBm hx))
  · obtain ⟨p, B, s, hp, hB, hs, -, hpm, -⟩ := hc.at (hj.ok i (by rw [hl]; exact List.mem_cons_self))
    have hil := (List.getElem?_eq_some_iff.1 hp).1
    refine (step_free hc hj hl hp hB hs (by rw [h2, List.getElem?_set]; simp [noW, hil]) h1).mono ?_
    rintro x w' ⟨rfl, hc', ⟨lv, hj'⟩, hf'⟩
    have hk : k = 3 * r.length := by rw [hl, List.length_cons] at h5; omega
    refine ⟨?_, hv, _, { j with left := r, did := false, lv := lv }, rfl, hc', hj', ⟨h.dd, h.h, h.hd, h.hb, h.own, h.vown, h.ne, .inl ⟨rfl, by show c.who.set i none = _; rw [h2, noW_back], h3, h4, hk⟩⟩, hf.weak hf' fun x hx => ?_⟩
    · have e : decide (r = []) = decide (k = 0) := by
        rw [hk]
        cases r with
        | nil => simp
        | cons a l => simp
      rw [e]
    · simp only [List.mem_cons, List.not_mem_nil, or_false] at hx
      rcases hx with rfl | rfl
      · exact .inl (List.mem_append_left _ (CB.wr_ps hpm))
      · exact .inr hpj
/-- At which shards a deed is done. -/
def leftD (d : Dd) (n : Nat) : List Nat := if d.kind = 4 then List.range n else [hashK d.e.q n]
theorem leftD_pos {d : Dd} {n : Nat} (h : 1 ≤ n) : 0 < (leftD d n).length := by unfold leftD; split <;> simp <;> omega
theorem leftD_le {d : Dd} {n : Nat} (h : 1 ≤ n ∧ n ≤ 16) : (leftD d n).length ≤ 16 := by unfold leftD; split <;> simp <;> omega
def Begun (w : World) (C : CB) (d : Dd) (r : Ending) (w' : World) : Prop := ∃ j : Jb, r = .returned (pV j.p) ∧ JAt w' C j ∧ j.d = d ∧ j.left = leftD d C.ps.length ∧ j.did = false ∧ j.ev = [] ∧ j.vv = .slice none 0 0 ∧ w.heap.size ≤ j.p ∧ Fr [] w w'
theorem begin_calls {w : World} {C : CB} {hv : Value} {c : Cs} (hc : CAt w C hv c) (d : Dd) (hnm : d.e.q.name.size ≤ 1000000000000000) (hte : TOk d.e.expire) (htn : TOk d.now) (hk : 1 ≤ d.kind ∧ d.kind ≤ 4) : Calls Try.prog 9 #[pV C.pc, d.v] w (Begun w C d) := by
  by_cases h4 : d.kind = 4
  · refine (begin_all hc d hnm hte htn h4).mono ?_
    rintro r w' ⟨j, a1, a2, a3, a4, a5, a6, a7, a8, a9⟩
    exact ⟨j, a1, a2, a3, by rw [a4, leftD, if_pos h4], a5, a6, a7, a8, a9⟩
  · refine (begin_one hc d hnm hte htn (by omega)).mono ?_
    rintro r w' ⟨j, a1, a2, a3, a4, a5, a6, a7, a8, a9⟩
    exact ⟨j, a1, a2, a3, by rw [a4, leftD, if_neg h4], a5, a6, a7, a8, a9⟩
/-- What Do tells. -/
def Did (w : World) (C : CB) (hv : Value) (c : Cs) (d : Dd) (r : Ending) (w' : World) : Prop :=
  ∃ v hv' ev, r = .returned v ∧ w'.ownsRow w.heap.size 47 20 v ev.length (ev.flatMap Ev.c) ∧ (∀ e ∈ ev, QRow w' C.n0 e.gv e.t.gone) ∧ tells ev = finE d c.ss (leftD d C.ps.length) ∧ (∀ e ∈ ev, e.d = d) ∧
    CAt w' C hv' ⟨finS d c.ss (leftD d C.ps.length), noW C.ps.length, c.hist ++ ev⟩ ∧ Fr (C.wr ++ hv.ownBlock.toList) w w' ∧ (∀ x, hv'.ownBlock = some x → hv.ownBlock = some x ∨ w.heap.size ≤ x) ∧ (∀ x, v.ownBlock = some x → hv'.ownBlock ≠ some x)
set_option maxRecDepth 100000 in
set_option maxHeartbeats 8000000 in
theorem do_calls {w : World} {C : CB} {hv : Value} {c : Cs} (hc : CAt w C hv c) (d : Dd) (hnm : d.e.q.name.size ≤ 1000000000000000) (hte : TOk d.e.expire) (htn : TOk d.now) (hk : 1 ≤ d.kind ∧ d.kind ≤ 4) (hw : c.who = noW C.ps.length) (hh : c.hist.length ≤ 900000) : Calls Try.prog 14 #[pV C.pc, d.v] w (Did w C hv c d) := by
  have HK := Hd.mk (And.intro hk (And.intro hw hh))
  clear hk hw hh
  have HNM := Hd.mk hnm
  have HT := Hd.mk (And.intro hte htn)
  have HC := Hd.mk hc
  clear hc hnm hte htn
  unfold pV Dd.v
  go_enter Try.func14, Try.ntmps14
  go_upto_region 1 with (fail)
  refine wp_name ?_; intro w0 hw0
  have hf0 := alloc_of hw0
  have hb0 := blk_of (T := 39) (c := [.int .i64 d.kind, .string d.e.q.name, .int .u16 d.e.q.ty, .int .u16 d.e.q.cl, .slice d.e.ra d.e.rn d.e.rc, .int .i64 d.e.rcode, .int .i64 d.e.rank, .int .u64 d.e.expire, .int .u64 d.now]) hw0
  have hz0 : w0.heap.size = w.heap.size + 1 := by rw [hw0]; simp
  clear hw0
  obtain ⟨db, h_db⟩ : ∃ p, w.heap.size = p := ⟨_, rfl⟩
  rw [h_db] at hb0 ⊢
  have HZ := Hd.mk (And.intro hz0 h_db)
  have HF0 := Hd.mk hf0
  have HC0 := Hd.mk (HC.out.fr0 hf0)
  obtain ⟨d0, d1, d2, d3, d4, d5, d6, d7, d8⟩ : w0.cell? ⟨db, 0, none⟩ = some (.int .i64 d.kind) ∧ w0.cell? ⟨db, 1, none⟩ = some (.string d.e.q.name) ∧ w0.cell? ⟨db, 2, none⟩ = some (.int .u16 d.e.q.ty) ∧ w0.cell? ⟨db, 3, none⟩ = some (.int .u16 d.e.q.cl) ∧ w0.cell? ⟨db, 4, none⟩ = some (.slice d.e.ra d.e.rn d.e.rc) ∧ w0.cell? ⟨db, 5, none⟩ = some (.int .i64 d.e.rcode) ∧ w0.cell? ⟨db, 6, none⟩ = some (.int .i64 d.e.rank) ∧ w0.cell? ⟨db, 7, none⟩ = some (.int .u64 d.e.expire) ∧ w0.cell? ⟨db, 8, none⟩ = some (.int .u64 d.now) := ⟨hb0.cell rfl, hb0.cell rfl, hb0.cell rfl, hb0.cell rfl, hb0.cell rfl, hb0.cell rfl, hb0.cell rfl, hb0.cell rfl, hb0.cell rfl⟩
  clear hf0 hz0 h_db
  clear hb0
  go_wp2_with fail
  refine (begin_calls HC0.out d HNM.out HT.out.1 HT.out.2 HK.out.1).mono ?_
  rintro r w1 ⟨j, rfl, hj, hjd, hjl, hjn, hje, hjv, hjp, hf1⟩
  clear d0 d1 d2 d3 d4 d5 d6 d7 d8
  have HJ := Hd.mk hj
  have HC1 := Hd.mk (HC0.out.fr0 hf1)
  have HF1 : Hd (Fr [] w w1) := Hd.mk (HF0.out.trans hf1)
  have HJP : Hd (w.heap.size ≤ j.p) := Hd.mk (by have := HZ.out; omega)
  have HN16 := Hd.mk HC.out.ok.n1
  have HFA : Hd (j.left.any (heldB c) = false) := Hd.mk (by
    rw [List.any_eq_false]
    intro i hi
    have h1 := HJ.out.ok i hi
    unfold heldB
    rw [HK.out.2.1, noW_get h1]
    simp)
  have HP : Hd (DoP w C hv d (finS d c.ss (leftD d C.ps.length)) (finE d c.ss (leftD d C.ps.length)) c.hist (3 * (leftD d C.ps.length).length) hv c j) := Hd.mk
    ⟨hjd, by rw [hje, List.append_nil], (by rw [hje]; intro e he; cases he), (by rw [finE_len]; have := leftD_le (d := d) HN16.out; have := HK.out.2.2; omega), fun x hx => .inl hx, (fun x hx => by rw [hjv] at hx; cases hx), fun x hx => (by rw [hjv]; simp [Value.ownBlock]), .inl ⟨hjn, HK.out.2.1, by rw [hjl], by rw [hjl, hje]; rfl, by rw [hjl]⟩⟩
  have HJL : Hd (0 < j.left.length ∧ j.left.length ≤ 16) := Hd.mk (by rw [hjl]; exact ⟨leftD_pos HN16.out.1, leftD_le HN16.out⟩)
  clear hj hjd hjl hjn hje hjv hjp hf1
  unfold pV
  go_wp2_with fail
  refine (free_calls HC1.out HJ.out HJL.out.1 (by have := HJL.out.2; omega)).mono ?_
  rintro r w2 ⟨rfl, hf2⟩
  rw [HFA.out]
  have HJ2 := Hd.mk (HJ.out.fr0 hf2)
  have HC2 := Hd.mk (HC1.out.fr0 hf2)
  have HF2 : Hd (Fr (C.wr ++ hv.ownBlock.toList) w w2) := Hd.mk ((HF1.out.trans hf2).mono (by simp))
  have HLN : Hd (0 < (leftD d C.ps.length).length) := Hd.mk (leftD_pos HN16.out.1)
  clear hf2
  go_wp2_with fail
  obtain ⟨F, hF⟩ : ∃ F, finS d c.ss (leftD d C.ps.length) = F := ⟨_, rfl⟩
  obtain ⟨E, hE⟩ : ∃ E, finE d c.ss (leftD d C.ps.length) = E := ⟨_, rfl⟩
  obtain ⟨pj, hpj⟩ : ∃ p, j.p = p := ⟨_, rfl⟩
  have HP2 := HP.out
  rw [hF, hE] at HP2
  have HP3 := Hd.mk HP2
  have HFE := Hd.mk (And.intro hF hE)
  have HPJ : Hd (w.heap.size ≤ pj ∧ j.p = pj) := Hd.mk ⟨by rw [← hpj]; exact HJP.out, hpj⟩
  rw [hpj]
  clear HP2 HP hF hE hpj
  go_loopg [14] (3 * (leftD d C.ps.length).length - 1) (fun k _ wr => ∃ hv' c' j', j'.p = pj ∧ CAt wr C hv' c' ∧ JAt wr C j' ∧ DoP w C hv d F E c.hist (k + 1) hv' c' j' ∧ Fr (C.wr ++ hv.ownBlock.toList) w wr)
  case atStart => exact ⟨hv, c, j, HPJ.out.2, HC2.out, HJ2.out, by have e : 3 * (leftD d C.ps.length).length - 1 + 1 = 3 * (leftD d C.ps.length).length := by { have := HLN.out; omega }; rw [e]; exact HP3.out, HF2.out⟩
  case round =>
    obtain ⟨hv', c', j', hjp, hc', hj', hp', hfr⟩ := hrel
    have hcon := do_step hc' hj' hp' hfr (by rw [hjp]; exact HPJ.out.1)
    rw [hjp] at hcon
    have HCON := Hd.mk hcon
    clear hc' hj' hp' hfr hcon hjp
    go_wp2_with fail
    refine HCON.out.mono ?_
    clear HCON
    rintro r w3 ⟨rfl, hv3, c3, j3, hjp3, hc3, hj3, hd3, hf3⟩
    have HX := Hd.mk (And.intro hc3 (And.intro hj3 (And.intro hd3 hf3)))
    have HJP3 := Hd.mk hjp3
    clear hc3 hj3 hd3 hf3 hjp3
    cases gk with
    | zero =>
      have e : decide ((0 : Nat) = 0) = true := rfl
      rw [e]
      obtain ⟨h1, h2, h3⟩ := HX.out.2.2.1.done
      have HDN := Hd.mk (And.intro h1 (And.intro h2 h3))
      have HEL : Hd (j3.ev.length ≤ 1000000) := Hd.mk (by
        have := HX.out.2.2.1.hb
        rw [← h2, tells_len] at this
        omega)
      have hcon := events_calls HX.out.2.1 HEL.out
      rw [HJP3.out] at hcon
      have HCON := Hd.mk hcon
      clear h1 h2 h3 e hcon
      unfold pV at HCON
      go_wp2_with fail
      refine HCON.out.mono ?_
      rintro r w4 ⟨v, rfl, hown, hf4⟩
      have HO := Hd.mk hown
      have HF4 := Hd.mk hf4
      clear hown hf4 HCON
      go_wp2
      go_ret
      obtain ⟨h1, h2, h3⟩ := HDN.out
      obtain ⟨hc3, hj3, hd3, hf3⟩ := HX.out
      have hs3 := hf3.size
      have hc4 := hc3.fr0 HF4.out
      have hj4 := hj3.fr0 HF4.out
      refine ⟨v, hv3, j3.ev, rfl, own_base HO.out hs3, hj4.ev.gone, by rw [h2, ← HFE.out.2], hd3.hd, ?_, hf3.trans (HF4.out.mono (by simp)), hd3.own, fun x hx hx2 => ?_⟩
      · rw [HFE.out.1, ← h1, ← h3, ← hd3.h]
        exact hc4
      · have e1 := (HO.out.lt x hx).1
        have e2 := (hc3.hist.row.lt x hx2).2
        omega
    | succ m =>
      have e : decide (m + 1 = 0) = false := rfl
      rw [e]
      go_wp2
      go_roundg m
      case measure => omega
      case rel => exact ⟨_, _, _, HJP3.out, HX.out.1, HX.out.2.1, HX.out.2.2.1, HX.out.2.2.2⟩
set_option maxRecDepth 100000 in
set_option maxHeartbeats 8000000 in
theorem do_locked {w : World} {C : CB} {hv : Value} {c : Cs} (hc : CAt w C hv c) (d : Dd) (hnm : d.e.q.name.size ≤ 1000000000000000) (hte : TOk d.e.expire) (htn : TOk d.now) (hk : 1 ≤ d.kind ∧ d.kind ≤ 4) (hl : (leftD d C.ps.length).any (heldB c) = true) : Calls Try.prog 14 #[pV C.pc, d.v] w fun r w' => r = .returned (.slice none 0 0) ∧ Fr [] w w' := by
  have HK := Hd.mk (And.intro hk hl)
  clear hk hl
  have HNM := Hd.mk hnm
  have HT := Hd.mk (And.intro hte htn)
  have HC := Hd.mk hc
  clear hc hnm hte htn
  unfold pV Dd.v
  go_enter Try.func14, Try.ntmps14
  go_upto_region 1 with (fail)
  refine wp_name ?_; intro w0 hw0
  have hf0 := alloc_of hw0
  have hb0 := blk_of (T := 39) (c := [.int .i64 d.kind, .string d.e.q.name, .int .u16 d.e.q.ty, .int .u16 d.e.q.cl, .slice d.e.ra d.e.rn d.e.rc, .int .i64 d.e.rcode, .int .i64 d.e.rank, .int .u64 d.e.expire, .int .u64 d.now]) hw0
  have hz0 : w0.heap.size = w.heap.size + 1 := by rw [hw0]; simp
  clear hw0
  obtain ⟨db, h_db⟩ : ∃ p, w.heap.size = p := ⟨_, rfl⟩
  rw [h_db] at hb0 ⊢
  have HZ := Hd.mk (And.intro hz0 h_db)
  have HF0 := Hd.mk hf0
  have HC0 := Hd.mk (HC.out.fr0 hf0)
  obtain ⟨d0, d1, d2, d3, d4, d5, d6, d7, d8⟩ : w0.cell? ⟨db, 0, none⟩ = some (.int .i64 d.kind) ∧ w0.cell? ⟨db, 1, none⟩ = some (.string d.e.q.name) ∧ w0.cell? ⟨db, 2, none⟩ = some (.int .u16 d.e.q.ty) ∧ w0.cell? ⟨db, 3, none⟩ = some (.int .u16 d.e.q.cl) ∧ w0.cell? ⟨db, 4, none⟩ = some (.slice d.e.ra d.e.rn d.e.rc) ∧ w0.cell? ⟨db, 5, none⟩ = some (.int .i64 d.e.rcode) ∧ w0.cell? ⟨db, 6, none⟩ = some (.int .i64 d.e.rank) ∧ w0.cell? ⟨db, 7, none⟩ = some (.int .u64 d.e.expire) ∧ w0.cell? ⟨db, 8, none⟩ = some (.int .u64 d.now) := ⟨hb0.cell rfl, hb0.cell rfl, hb0.cell rfl, hb0.cell rfl, hb0.cell rfl, hb0.cell rfl, hb0.cell rfl, hb0.cell rfl, hb0.cell rfl⟩
  clear hf0 hz0 h_db
  clear hb0
  go_wp2_with fail
  refine (begin_calls HC0.out d HNM.out HT.out.1 HT.out.2 HK.out.1).mono ?_
  rintro r w1 ⟨j, rfl, hj, hjd, hjl, hjn, hje, hjv, hjp, hf1⟩
  clear d0 d1 d2 d3 d4 d5 d6 d7 d8
  have HJ := Hd.mk hj
  have HC1 := Hd.mk (HC0.out.fr0 hf1)
  have HF1 : Hd (Fr [] w w1) := Hd.mk (HF0.out.trans hf1)
  have HN16 := Hd.mk HC.out.ok.n1
  have HFA : Hd (j.left.any (heldB c) = true) := Hd.mk (by rw [hjl]; exact HK.out.2)
  have HJL : Hd (0 < j.left.length ∧ j.left.length ≤ 16) := Hd.mk (by rw [hjl]; exact ⟨leftD_pos HN16.out.1, leftD_le HN16.out⟩)
  clear hj hjd hjl hjn hje hjv hjp hf1
  unfold pV
  go_wp2_with fail
  refine (free_calls HC1.out HJ.out HJL.out.1 (by have := HJL.out.2; omega)).mono ?_
  rintro r w2 ⟨rfl, hf2⟩
  rw [HFA.out]
  have HF2 := Hd.mk (HF1.out.trans hf2)
  clear hf2
  go_wp2
  go_ret
  exact ⟨rfl, HF2.out⟩
set_option maxRecDepth 100000 in
set_option maxHeartbeats 8000000 in
theorem do_none (v : Value) (d : Dd) (hv : v = .pointer none ∨ ((∃ pc, v = pV pc) ∧ (d.kind < 1 ∨ 4 < d.kind))) (w : World) : Calls Try.prog 14 #[v, d.v] w fun r w' => r = .returned (.slice none 0 0) ∧ Fr [] w w' := by
  have HB : Hd (∀ w : World, Calls Try.prog 9 #[v, d.v] w fun r w' => r = .returned (.pointer none) ∧ Fr [] w w') := Hd.mk (by
    intro w
    rcases hv with rfl | ⟨⟨pc, rfl⟩, hk⟩
    · exact begin_nil d w
    · exact begin_bad pc d hk w)
  clear hv
  unfold Dd.v at HB ⊢
  go_enter Try.func14, Try.ntmps14
  go_upto_region 1 with (fail)
  refine wp_name ?_; intro w0 hw0
  have hf0 := alloc_of hw0
  have hb0 := blk_of (T := 39) (c := [.int .i64 d.kind, .string d.e.q.name, .int .u16 d.e.q.ty, .int .u16 d.e.q.cl, .slice d.e.ra d.e.rn d.e.rc, .int .i64 d.e.rcode, .int .i64 d.e.rank, .int .u64 d.e.expire, .int .u64 d.now]) hw0
  have hz0 : w0.heap.size = w.heap.size + 1 := by rw [hw0]; simp
  clear hw0
  obtain ⟨db, h_db⟩ : ∃ p, w.heap.size = p := ⟨_, rfl⟩
  rw [h_db] at hb0 ⊢
  have HZ := Hd.mk (And.intro hz0 h_db)
  have HF0 := Hd.mk hf0
  obtain ⟨d0, d1, d2, d3, d4, d5, d6, d7, d8⟩ : w0.cell? ⟨db, 0, none⟩ = some (.int .i64 d.kind) ∧ w0.cell? ⟨db, 1, none⟩ = some (.string d.e.q.name) ∧ w0.cell? ⟨db, 2, none⟩ = some (.int .u16 d.e.q.ty) ∧ w0.cell? ⟨db, 3, none⟩ = some (.int .u16 d.e.q.cl) ∧ w0.cell? ⟨db, 4, none⟩ = some (.slice d.e.ra d.e.rn d.e.rc) ∧ w0.cell? ⟨db, 5, none⟩ = some (.int .i64 d.e.rcode) ∧ w0.cell? ⟨db, 6, none⟩ = some (.int .i64 d.e.rank) ∧ w0.cell? ⟨db, 7, none⟩ = some (.int .u64 d.e.expire) ∧ w0.cell? ⟨db, 8, none⟩ = some (.int .u64 d.now) := ⟨hb0.cell rfl, hb0.cell rfl, hb0.cell rfl, hb0.cell rfl, hb0.cell rfl, hb0.cell rfl, hb0.cell rfl, hb0.cell rfl, hb0.cell rfl⟩
  clear hf0 hz0 h_db
  clear hb0
  go_wp2_with fail
  refine (HB.out _).mono ?_
  rintro r w1 ⟨rfl, hf1⟩
  clear d0 d1 d2 d3 d4 d5 d6 d7 d8
  have HF1 : Hd (Fr [] w w1) := Hd.mk (HF0.out.trans hf1)
  clear hf1
  go_wp2_with fail
  refine (jfree_nil _).mono ?_
  rintro r w2 ⟨rfl, hf2⟩
  have HF2 := Hd.mk (HF1.out.trans hf2)
  clear hf2
  go_wp2
  go_ret
  exact ⟨rfl, HF2.out⟩
end Go.Proofs.Ytogjfcmclfehkaa
namespace Go.Proofs.Ytogjfcmclfehkaa
open Go Go.RowKit Go.Proofs.MapL PPM Go.Proofs.YtogjfcmclfehkaaW.PrintWords

/-! ### Jobs that step in turn: a machine without memory -/
structure PJ where
  d : Dd
  left : List Nat
  did : Bool
  ev : List (Nat × Tell)
structure PS where
  ss : List SS
  who : List (Option Nat)
  js : List PJ
  hist : List (Dd × Nat × Tell)
def PS.step (x : PS) (k : Nat) : PS :=
  match x.js[k]? with
  | none => x
  | some j =>
    match j.left with
    | [] => x
    | i :: r =>
      match x.who[i]? with
      | some none => { x with who := x.who.set i (some k) }
      | some (some m) =>
        if m = k then
          if j.did then { x with who := x.who.set i none, js := x.js.set k { j with left := r, did := false } }
          else { ss := x.ss.set i (doneS (ssAt x.ss i) j.d), who := x.who, js := x.js.set k { j with did := true, ev := j.ev ++ [(i, doneT (ssAt x.ss i) j.d)] }, hist := x.hist ++ [(j.d, i, doneT (ssAt x.ss i) j.d)] }
        else x
      | none => x
def PS.fin (x : PS) (k : Nat) : Bool := match x.js[k]? with
  | some j => j.left.isEmpty
  | none => true
def Ev.tr (e : Ev) : Dd × Nat × Tell := (e.d, e.i, e.t)
/-! ### Frames of a cache's steps -/
def Tok (T : Nat) : Prop := T ≠ 66 ∧ T ≠ 58 ∧ T ≠ 63 ∧ T ≠ 47 ∧ T ≠ 91 ∧ T ≠ 115 ∧ T ≠ 95
/-- Only blocks from b0 on, of a cache's own types, may be otherwise. -/
def FrN (b0 : Nat) (w w' : World) : Prop := ∃ S, Fr S w w' ∧ (∀ k ∈ S, b0 ≤ k) ∧ ∀ T, Tok T → NoT w S T
section
variable {b0 : Nat} {w w' W : World}
theorem FrN.of (h : Fr [] w w') : FrN b0 w w' := ⟨[], h, (fun _ h => by cases h), fun _ _ => NoT.nil⟩
theorem FrN.size (h : FrN b0 w w') : w.heap.size ≤ w'.heap.size := by obtain ⟨S, h, -⟩ := h; exact h.size
theorem FrN.fr (h : FrN b0 w w') (hW : Fr [] W w) (hb : W.heap.size ≤ b0) : Fr [] W w' := by
  obtain ⟨S, h1, h2, -⟩ := h
  exact hW.weak h1 fun x hx => .inr (Nat.le_trans hb (h2 x hx))
theorem Blk.frn {b T : Nat} {cs : List Value} (h : Blk w b T cs) (hf : FrN b0 w w') (hT : Tok T) : Blk w' b T cs := by
  obtain ⟨S, h1, -, h3⟩ := hf
  exact h.noT h1 (h3 T hT)
theorem own_frn {base T size n : Nat} {v : Value} {xs : List Value} (h : w.ownsRow base T size v n xs) (hf : FrN b0 w w') (hT : Tok T) : w'.ownsRow base T size v n xs := by
  obtain ⟨S, h1, -, h3⟩ := hf
  exact own_noT h h1 (h3 T hT)
/-- A block below b0 stays. -/
theorem Blk.frl {b T : Nat} {cs : List Value} (h : Blk w b T cs) (hf : FrN b0 w w') (hb : b < b0) : Blk w' b T cs := by
  obtain ⟨S, h1, h2, -⟩ := hf
  exact h.fr h1 fun hx => by have := h2 b hx; omega
end
theorem CAt.noW {w : World} {C : CB} {hv : Value} {c : Cs} (h : CAt w C hv c) {T : Nat} (hT : Tok T) : NoT w (C.wr ++ hv.ownBlock.toList) T := by
  have hat : ∀ i, i < C.ps.length → ∃ p B s o, C.ps[i]? = some p ∧ C.Bs[i]? = some B ∧ PAt w p B s o := fun i hi => by
    obtain ⟨p, B, s, hp, hB, hs, -⟩ := h.at hi
    have ho : c.who[i]? = some (c.who[i]'(by rw [h.wl]; exact hi)) := List.getElem?_eq_getElem (by rw [h.wl]; exact hi)
    exact ⟨p, B, s, _, hp, hB, h.pt i p B s _ hp hB hs ho⟩
  refine NoT.app ?_ (NoT.own h.hist.row (fun e => hT.2.2.2.1 e.symm))
  intro k hk cs hb
  unfold CB.wr at hk
  simp only [List.mem_cons, List.mem_append, List.mem_flatMap] at hk
  rcases hk with rfl | hk | ⟨B, hB, hk⟩
  · exact (h.blk.ne hb (fun e => hT.2.1 e.symm)) rfl
  · obtain ⟨i, hi⟩ := List.getElem?_of_mem hk
    obtain ⟨p, B, s, o, h1, h2, h3⟩ := hat i (List.getElem?_eq_some_iff.1 hi).1
    rw [hi] at h1; cases h1
    exact (h3.blk.ne hb (fun e => hT.2.2.1 e.symm)) rfl
  · obtain ⟨i, hi⟩ := List.getElem?_of_mem hB
    obtain ⟨p, B', s, o, h1, h2, h3⟩ := hat i (by rw [← h.ok.len]; exact (List.getElem?_eq_some_iff.1 hi).1)
    rw [hi] at h2; cases h2
    exact blk_apart h3.sh hb hT.2.2.2.2.1 hT.2.2.2.2.2.1 hT.2.2.2.2.2.2 hk
theorem NoT.mono {w : World} {S S' : List Nat} {T : Nat} (h : NoT w S T) (hs : ∀ x ∈ S', x ∈ S) : NoT w S' T := fun k hk => h k (hs k hk)
/-! ### The machine in memory -/
structure JsX (b0 : Nat) (w : World) (C : CB) (x : PS) (ps : List Nat) (hv : Value) (c : Cs) (L : List Jb) : Prop where
  ca : CAt w C hv c
  pe : L.map (·.p) = ps
  ln : L.length = x.js.length
  ss : c.ss = x.ss
  who : c.who = x.who.map (Option.map fun k => ps.getD k 0)
  wl : ∀ (i m : Nat), x.who[i]? = some (some m) → m < ps.length
  hist : c.hist.map Ev.tr = x.hist
  job : ∀ j ∈ L, JAt w C j
  pj : ∀ (k : Nat) (j : Jb), L[k]? = some j → x.js[k]? = some ⟨j.d, j.left, j.did, tells j.ev⟩
  jd : ∀ j ∈ L, ∀ e ∈ j.ev, e.d = j.d
  el : ∀ j ∈ L, j.ev.length ≤ c.hist.length
  ow : ∀ (k : Nat) (j : Jb), L[k]? = some j → ∀ b, j.vv.ownBlock = some b → hv.ownBlock ≠ some b ∧ ∀ (m : Nat) (j' : Jb), L[m]? = some j' → m ≠ k → j'.vv.ownBlock ≠ some b
  nd : ps.Nodup
  b : (∀ z ∈ C.wr, b0 ≤ z) ∧ b0 ≤ C.n0
def JsAt (b0 : Nat) (w : World) (C : CB) (x : PS) (ps : List Nat) : Prop := ∃ hv c L, JsX b0 w C x ps hv c L
theorem JsX.fr0 {b0 : Nat} {w w' : World} {C : CB} {x : PS} {ps : List Nat} {hv : Value} {c : Cs} {L : List Jb} (h : JsX b0 w C x ps hv c L) (hf : Fr [] w w') : JsX b0 w' C x ps hv c L :=
  ⟨h.ca.fr0 hf, h.pe, h.ln, h.ss, h.who, h.wl, h.hist, fun j hj => (h.job j hj).fr0 hf, h.pj, h.jd, h.el, h.ow, h.nd, h.b⟩
theorem JsAt.fr0 {b0 : Nat} {w w' : World} {C : CB} {x : PS} {ps : List Nat} (h : JsAt b0 w C x ps) (hf : Fr [] w w') : JsAt b0 w' C x ps := by
  obtain ⟨hv, c, L, h⟩ := h
  exact ⟨hv, c, L, h.fr0 hf⟩
theorem JsAt.len {b0 : Nat} {w : World} {C : CB} {x : PS} {ps : List Nat} (h : JsAt b0 w C x ps) : ps.length = x.js.length := by
  obtain ⟨hv, c, L, h⟩ := h
  rw [← h.pe, List.length_map, h.ln]
theorem who_at {x : PS} {ps : List Nat} {l : List (Option Nat)} (h : l = x.who.map (Option.map fun k => ps.getD k 0)) (i : Nat) : l[i]? = (x.who[i]?).map (Option.map fun k => ps.getD k 0) := by
  rw [h, List.getElem?_map]
theorem get_map {α β : Type} {f : α → β} {l : List α} {i : Nat} {a : α} (h : l[i]? = some a) : (l.map f)[i]? = some (f a) := by rw [List.getElem?_map, h]; rfl
theorem set_get_map {L : List Jb} {k : Nat} {j j' : Jb} (h : L[k]? = some j) (hp : j'.p = j.p) : (L.set k j').map (·.p) = L.map (·.p) := by
  rw [List.map_set, hp]
  apply List.ext_getElem?
  intro m
  rw [List.getElem?_set]
  split
  · rename_i e
    subst e
    rw [get_map h]
    have := (List.getElem?_eq_some_iff.1 (get_map (f := (·.p)) h)).1
    rw [if_pos this]
  · rfl
section
variable {b0 : Nat} {w : World} {C : CB} {x : PS} {ps : List Nat}
def JsStep (b0 : Nat) (w : World) (C : CB) (x : PS) (ps : List Nat) (k : Nat) (r : Ending) (w' : World) : Prop :=
  r = .returned (.bool ((x.step k).fin k)) ∧ JsAt b0 w' C (x.step k) ps ∧ FrN b0 w w'
theorem JsX.frn {hv : Value} {c : Cs} {L : List Jb} (h : JsX b0 w C x ps hv c L) {k : Nat} {j : Jb} (hk : L[k]? = some j) {S : List Nat} {w' : World} (hf : Fr S w w')
    (hS : ∀ y ∈ S, y = j.p ∨ y ∈ C.wr ∨ hv.ownBlock = some y ∨ j.vv.ownBlock = some y) : FrN b0 w w' := by
  have hj := h.job j (List.mem_of_getElem? hk)
  have hb := h.b
  refine ⟨S, hf, fun y hy => ?_, fun T hT y hy cs hbl => ?_⟩
  · rcases hS y hy with rfl | h1 | h1 | h1
    · exact Nat.le_trans hb.2 hj.n0
    · exact hb.1 y h1
    · exact Nat.le_trans hb.2 (h.ca.hist.row.lt y h1).1
    · exact Nat.le_trans hb.2 (hj.ev.row.lt y h1).1
  · rcases hS y hy with rfl | h1 | h1 | h1
    · exact (hj.blk.ne hbl (fun e => hT.1 e.symm)) rfl
    · exact h.ca.noW hT y (List.mem_append_left _ h1) cs hbl
    · exact h.ca.noW hT y (List.mem_append_right _ (by simpa using h1)) cs hbl
    · obtain ⟨cs', hc'⟩ := own_kblk hj.ev.row h1
      exact (hc'.ne hbl (fun e => hT.2.2.2.1 e.symm)) rfl
/-- Another job's memory is as it was. -/
theorem JsX.other {hv : Value} {c : Cs} {L : List Jb} (h : JsX b0 w C x ps hv c L) {k m : Nat} {j j' : Jb} (hk : L[k]? = some j) (hm : L[m]? = some j') (hne : m ≠ k) {S : List Nat} {w' : World} (hf : Fr S w w')
    (hS : ∀ y ∈ S, y = j.p ∨ y ∈ C.wr ∨ hv.ownBlock = some y ∨ j.vv.ownBlock = some y) : JAt w' C j' := by
  have hj := h.job j (List.mem_of_getElem? hk)
  have hj' := h.job j' (List.mem_of_getElem? hm)
  have hnt : ∀ T, Tok T → NoT w S T := fun T hT => by
    intro y hy cs hbl
    rcases hS y hy with rfl | h1 | h1 | h1
    · exact (hj.blk.ne hbl (fun e => hT.1 e.symm)) rfl
    · exact h.ca.noW hT y (List.mem_append_left _ h1) cs hbl
    · exact h.ca.noW hT y (List.mem_append_right _ (by simpa using h1)) cs hbl
    · obtain ⟨cs', hc'⟩ := own_kblk hj.ev.row h1
      exact (hc'.ne hbl (fun e => hT.2.2.2.1 e.symm)) rfl
  have hpne : j'.p ≠ j.p := by
    intro e
    have h1 := get_map (f := (·.p)) hk
    have h2 := get_map (f := (·.p)) hm
    rw [h.pe] at h1 h2
    rw [e] at h2
    exact hne (nodup_get h.nd h2 h1)
  have hwr : ∀ y cs T, Blk w y T cs → (T = 66 ∨ T = 47) → y ∉ C.wr := by
    intro y cs T hb hT hy
    unfold CB.wr at hy
    simp only [List.mem_cons, List.mem_append, List.mem_flatMap] at hy
    rcases hy with rfl | hy | ⟨B, hB, hy⟩
    · exact (h.ca.blk.ne hb (by rcases hT with rfl | rfl <;> decide)) rfl
    · obtain ⟨i, hi⟩ := List.getElem?_of_mem hy
      have hil := (List.getElem?_eq_some_iff.1 hi).1
      obtain ⟨p, B, s, hp, hB, hs, -⟩ := h.ca.at hil
      rw [hi] at hp; cases hp
      have k3 := h.ca.pt i _ B s _ hi hB hs (List.getElem?_eq_getElem (by rw [h.ca.wl]; exact hil))
      exact (k3.blk.ne hb (by rcases hT with rfl | rfl <;> decide)) rfl
    · obtain ⟨i, hi⟩ := List.getElem?_of_mem hB
      have hil : i < C.ps.length := by rw [← h.ca.ok.len]; exact (List.getElem?_eq_some_iff.1 hi).1
      obtain ⟨p, B', s, hp, hB', hs, -⟩ := h.ca.at hil
      rw [hi] at hB'; cases hB'
      have k3 := h.ca.pt i p _ s _ hp hi hs (List.getElem?_eq_getElem (by rw [h.ca.wl]; exact hil))
      exact blk_apart k3.sh hb (by rcases hT with rfl | rfl <;> decide) (by rcases hT with rfl | rfl <;> decide) (by rcases hT with rfl | rfl <;> decide) hy
  refine hj'.fr hf (fun hy => ?_) (hnt _ (by unfold Tok; decide)) (hnt _ (by unfold Tok; decide)) fun y hy hyS => ?_
  · rcases hS _ hy with e | h1 | h1 | h1
    · exact hpne e
    · exact hwr _ _ _ hj'.blk (.inl rfl) h1
    · obtain ⟨cs', hc'⟩ := own_kblk h.ca.hist.row h1
      exact (hc'.ne hj'.blk (by decide)) rfl
    · obtain ⟨cs', hc'⟩ := own_kblk hj.ev.row h1
      exact (hc'.ne hj'.blk (by decide)) rfl
  · obtain ⟨cs', hc'⟩ := own_kblk hj'.ev.row hy
    have ho := h.ow m j' hm y hy
    rcases hS _ hyS with rfl | h1 | h1 | h1
    · exact (hj.blk.ne hc' (by decide)) rfl
    · exact hwr _ _ _ hc' (.inr rfl) h1
    · exact ho.1 h1
    · exact ho.2 k j hk (Ne.symm hne) h1
theorem js_step {k p : Nat} (h : JsAt b0 w C x ps) (hk : ps[k]? = some p) (hh : x.hist.length < 900000) : Calls Try.prog 11 #[pV p] w (JsStep b0 w C x ps k) := by
  obtain ⟨hv, c, L, h⟩ := h
  have hkl : k < L.length := by
    have := (List.getElem?_eq_some_iff.1 hk).1
    rw [← h.pe, List.length_map] at this; exact this
  obtain ⟨j, hj⟩ : ∃ j, L[k]? = some j := ⟨_, List.getElem?_eq_getElem hkl⟩
  have hjm := List.mem_of_getElem? hj
  have hja := h.job j hjm
  have hjp : j.p = p := by
    have h1 := get_map (f := (·.p)) hj
    rw [h.pe, hk] at h1
    exact (Option.some.inj h1).symm
  have hpj := h.pj k j hj
  have hcl : c.hist.length < 900000 := by rw [← h.hist, List.length_map] at hh; exact hh
  have hel := h.el j hjm
  subst hjp
  unfold JsStep
  have hstay : (∀ y, x.step k = x → x.fin k = y → Calls Try.prog 11 #[pV j.p] w (fun r w' => r = .returned (.bool y) ∧ w' = w) → Calls Try.prog 11 #[pV j.p] w fun r w' => r = .returned (.bool ((x.step k).fin k)) ∧ JsAt b0 w' C (x.step k) ps ∧ FrN b0 w w') := by
    intro y e1 e2 hc
    refine hc.mono ?_
    rintro r w' ⟨rfl, rfl⟩
    rw [e1, e2]
    exact ⟨rfl, ⟨hv, c, L, h⟩, FrN.of (Fr.refl _ _)⟩
  cases hl : j.left with
  | nil =>
    have e1 : x.step k = x := by unfold PS.step; rw [hpj]; simp only [hl]
    exact hstay true e1 (by unfold PS.fin; rw [hpj, hl]; rfl) (step_done hja hl)
  | cons i r =>
    have hil : i < C.ps.length := hja.ok i (by rw [hl]; exact List.mem_cons_self)
    obtain ⟨q, B, s, hp, hB, hs, hse, hpm, hBm⟩ := h.ca.at hil
    have hfin : x.fin k = false := by unfold PS.fin; rw [hpj, hl]; rfl
    have hwi := who_at h.who i
    have hwl : i < x.who.length := by
      have := h.ca.wl
      rw [h.who, List.length_map] at this
      omega
    cases hx : x.who[i]? with
    | none => rw [List.getElem?_eq_none_iff] at hx; omega
    | some o =>
      rw [hx] at hwi
      cases o with
      | none =>
        have e1 : x.step k = { x with who := x.who.set i (some k) } := by unfold PS.step; rw [hpj]; simp only [hl, hx]
        refine (step_lock h.ca hja hl hp hB hs hwi).mono ?_
        rintro y w' ⟨rfl, hc', hj', hf'⟩
        have hS : ∀ y ∈ [q], y = j.p ∨ y ∈ C.wr ∨ hv.ownBlock = some y ∨ j.vv.ownBlock = some y := fun y hy => by
          obtain rfl := List.mem_singleton.1 hy
          exact .inr (.inl (CB.wr_ps hpm))
        refine ⟨?_, ⟨hv, { c with who := c.who.set i (some j.p) }, L, ?_⟩, h.frn hj hf' hS⟩
        · rw [e1]
          show _ = Ending.returned (.bool (x.fin k))
          rw [hfin]
        · rw [e1]
          refine ⟨hc', h.pe, h.ln, h.ss, ?_, fun i' m hm => ?_, h.hist, fun j' hj'm => ?_, h.pj, h.jd, h.el, h.ow, h.nd, h.b⟩
          · show c.who.set i (some j.p) = (x.who.set i (some k)).map _
            rw [List.map_set, ← h.who]
            simp [List.getD_eq_getElem?_getD, hk]
          · rcases get_set hm with ⟨-, e⟩ | ⟨-, hm⟩
            · cases e
              exact (List.getElem?_eq_some_iff.1 hk).1
            · exact h.wl i' m hm
          · obtain ⟨m, hm⟩ := List.getElem?_of_mem hj'm
            by_cases hmk : m = k
            · subst hmk
              rw [hj] at hm; cases hm
              exact hj'
            · exact h.other hj hm hmk hf' hS
      | some m =>
        by_cases hmk : m = k
        · subst hmk
          have hwi' : c.who[i]? = some (some j.p) := by
            rw [hwi]
            simp [List.getD_eq_getElem?_getD, hk]
          cases hd : j.did with
          | true =>
            have e1 : x.step m = { x with who := x.who.set i none, js := x.js.set m ⟨j.d, r, false, tells j.ev⟩ } := by unfold PS.step; rw [hpj]; simp only [hl, hx, hd, if_true]
            refine (step_free h.ca hja hl hp hB hs hwi' hd).mono ?_
            rintro y w' ⟨rfl, hc', ⟨lv, hj'⟩, hf'⟩
            have hS : ∀ y ∈ [q, j.p], y = j.p ∨ y ∈ C.wr ∨ hv.ownBlock = some y ∨ j.vv.ownBlock = some y := fun y hy => by
              simp only [List.mem_cons, List.not_mem_nil, or_false] at hy
              rcases hy with rfl | rfl
              · exact .inr (.inl (CB.wr_ps hpm))
              · exact .inl rfl
            have hjl : m < x.js.length := (List.getElem?_eq_some_iff.1 hpj).1
            refine ⟨?_, ⟨hv, { c with who := c.who.set i none }, L.set m { j with left := r, did := false, lv := lv }, ?_⟩, h.frn hj hf' hS⟩
            · rw [e1]
              unfold PS.fin
              simp only [List.getElem?_set, hjl, if_true]
              cases r <;> rfl
            · rw [e1]
              refine ⟨hc', ?_, by simp [h.ln], h.ss, ?_, fun i' m' hm => ?_, h.hist, fun j' hj'm => ?_, fun k' j' hk' => ?_, fun j' hj'm => ?_, fun j' hj'm => ?_, fun k' j' hk' b hb => ?_, h.nd, h.b⟩
              · rw [← h.pe]; exact set_get_map hj rfl
              · show c.who.set i none = (x.who.set i none).map _
                rw [List.map_set, ← h.who]; rfl
              · rcases get_set hm with ⟨-, e⟩ | ⟨-, hm⟩
                · cases e
                · exact h.wl i' m' hm
              · obtain ⟨k', hk'⟩ := List.getElem?_of_mem hj'm
                rcases get_set hk' with ⟨-, rfl⟩ | ⟨hne, hk'⟩
                · exact hj'
                · exact h.other hj hk' hne hf' hS
              · rcases get_set hk' with ⟨rfl, rfl⟩ | ⟨hne, hk'⟩
                · show (x.js.set k' _)[k']? = _
                  rw [List.getElem?_set_self hjl]
                · show (x.js.set m _)[k']? = _
                  rw [List.getElem?_set_ne (Ne.symm hne)]
                  exact h.pj k' j' hk'
              · rcases List.mem_or_eq_of_mem_set hj'm with hm | rfl
                · exact h.jd j' hm
                · exact h.jd j hjm
              · rcases List.mem_or_eq_of_mem_set hj'm with hm | rfl
                · exact h.el j' hm
                · exact h.el j hjm
              · rcases get_set hk' with ⟨rfl, rfl⟩ | ⟨hne, hk2⟩
                · refine ⟨(h.ow k' j hj b hb).1, fun m' j2 hm2 hne2 => ?_⟩
                  rcases get_set hm2 with ⟨e, -⟩ | ⟨-, hm2⟩
                  · exact absurd e hne2
                  · exact (h.ow k' j hj b hb).2 m' j2 hm2 hne2
                · refine ⟨(h.ow k' j' hk2 b hb).1, fun m' j2 hm2 hne2 => ?_⟩
                  rcases get_set hm2 with ⟨rfl, rfl⟩ | ⟨-, hm2⟩
                  · exact (h.ow k' j' hk2 b hb).2 m' j hj hne2
                  · exact (h.ow k' j' hk2 b hb).2 m' j2 hm2 hne2
          | false =>
            have hsx : s = ssAt x.ss i := by rw [hse, h.ss]
            have e1 : x.step m = { ss := x.ss.set i (doneS (ssAt x.ss i) j.d), who := x.who, js := x.js.set m ⟨j.d, j.left, true, tells j.ev ++ [(i, doneT (ssAt x.ss i) j.d)]⟩, hist := x.hist ++ [(j.d, i, doneT (ssAt x.ss i) j.d)] } := by
              unfold PS.step; rw [hpj]; simp only [hl, hx, hd, if_true, Bool.false_eq_true, if_false]
            refine (step_do h.ca hja hl hp hB hs hwi' hd (by omega) (by omega) (fun b hb hb2 => (h.ow m j hj b hb2).1 hb)).mono ?_
            rintro y w' ⟨hv', vv', gv, rfl, hc', hj', hf', ho1, ho2, ho3⟩
            have hS : ∀ y ∈ j.p :: C.pc :: (hv.ownBlock.toList ++ j.vv.ownBlock.toList ++ B.wr), y = j.p ∨ y ∈ C.wr ∨ hv.ownBlock = some y ∨ j.vv.ownBlock = some y := fun y hy => by
              simp only [List.mem_cons, List.mem_append] at hy
              rcases hy with h1 | rfl | (hy | hy) | hy
              · exact .inl h1
              · exact .inr (.inl (by unfold CB.wr; exact List.mem_cons_self))
              · exact .inr (.inr (.inl (by simpa using hy)))
              · exact .inr (.inr (.inr (by simpa using hy)))
              · exact .inr (.inl (CB.wr_bs hBm hy))
            have hjl : m < x.js.length := (List.getElem?_eq_some_iff.1 hpj).1
            have hlt : ∀ (k' : Nat) (j2 : Jb), L[k']? = some j2 → ∀ b, j2.vv.ownBlock = some b → b < w.heap.size := fun k' j2 h2 b hb => ((h.job j2 (List.mem_of_getElem? h2)).ev.row.lt b hb).2
            refine ⟨?_, ⟨hv', { ss := c.ss.set i (doneS s j.d), who := c.who, hist := c.hist ++ [⟨j.d, i, doneT s j.d, gv⟩] }, L.set m { j with did := true, ev := j.ev ++ [⟨j.d, i, doneT s j.d, gv⟩], vv := vv' }, ?_⟩, h.frn hj hf' hS⟩
            · rw [e1]
              unfold PS.fin
              simp only [List.getElem?_set, hjl, if_true, hl]
              rfl
            · rw [e1]
              refine ⟨hc', ?_, by simp [h.ln], by show c.ss.set i _ = x.ss.set i _; rw [hsx, h.ss], h.who, h.wl, ?_, fun j' hj'm => ?_, fun k' j' hk' => ?_, fun j' hj'm e he => ?_, fun j' hj'm => ?_, fun k' j' hk' b hb => ?_, h.nd, h.b⟩
              · rw [← h.pe]; exact set_get_map hj rfl
              · show (c.hist ++ _).map Ev.tr = _
                rw [List.map_append, h.hist, hsx]; rfl
              · obtain ⟨k', hk'⟩ := List.getElem?_of_mem hj'm
                rcases get_set hk' with ⟨-, rfl⟩ | ⟨hne, hk'⟩
                · exact hj'
                · exact h.other hj hk' hne hf' hS
              · rcases get_set hk' with ⟨rfl, rfl⟩ | ⟨hne, hk'⟩
                · show (x.js.set k' _)[k']? = _
                  rw [List.getElem?_set_self hjl, hsx]
                  simp [tells]
                · show (x.js.set m _)[k']? = _
                  rw [List.getElem?_set_ne (Ne.symm hne)]
                  exact h.pj k' j' hk'
              · rcases List.mem_or_eq_of_mem_set hj'm with hm | rfl
                · exact h.jd j' hm e he
                · rcases List.mem_append.1 he with he | he
                  · exact h.jd j hjm e he
                  · obtain rfl := List.mem_singleton.1 he
                    rfl
              · show _ ≤ (c.hist ++ _).length
                rw [List.length_append]
                rcases List.mem_or_eq_of_mem_set hj'm with hm | rfl
                · have := h.el j' hm; omega
                · show (j.ev ++ _).length ≤ _
                  rw [List.length_append]
                  simp only [List.length_singleton]; omega
              · rcases get_set hk' with ⟨rfl, rfl⟩ | ⟨hne, hk2⟩
                · refine ⟨fun hh2 => ho3 b hh2 hb, fun m' j2 hm2 hne2 h2 => ?_⟩
                  rcases get_set hm2 with ⟨e, -⟩ | ⟨-, hm2⟩
                  · exact hne2 e
                  · rcases ho2 b hb with h3 | h3
                    · exact (h.ow k' j hj b h3).2 m' j2 hm2 hne2 h2
                    · have := hlt m' j2 hm2 b h2; omega
                · refine ⟨fun hh2 => ?_, fun m' j2 hm2 hne2 h2 => ?_⟩
                  · rcases ho1 b hh2 with h3 | h3
                    · exact (h.ow k' j' hk2 b hb).1 h3
                    · have := hlt k' j' hk2 b hb; omega
                  · rcases get_set hm2 with ⟨rfl, rfl⟩ | ⟨-, hm2⟩
                    · rcases ho2 b h2 with h3 | h3
                      · exact (h.ow k' j' hk2 b hb).2 m' j hj hne2 h3
                      · have := hlt k' j' hk2 b hb; omega
                    · exact (h.ow k' j' hk2 b hb).2 m' j2 hm2 hne2 h2
        · have e1 : x.step k = x := by unfold PS.step; rw [hpj]; simp only [hl, hx, if_neg hmk]
          have hml := h.wl i m hx
          have hml2 : m < L.length := by rw [← h.pe, List.length_map] at hml; exact hml
          obtain ⟨j2, hj2⟩ : ∃ j2, L[m]? = some j2 := ⟨_, List.getElem?_eq_getElem hml2⟩
          have hp2 : ps[m]? = some j2.p := by rw [← h.pe]; exact get_map hj2
          have hwi' : c.who[i]? = some (some j2.p) := by
            rw [hwi]
            simp [List.getD_eq_getElem?_getD, hp2]
          exact hstay false e1 hfin (step_wait h.ca hja hl hp hB hs hwi' (fun e => hmk (nodup_get h.nd (by rw [hp2, e]) hk)) (h.job j2 (List.mem_of_getElem? hj2)).blk)
theorem js_begin (h : JsAt b0 w C x ps) (d : Dd) (hnm : d.e.q.name.size ≤ 1000000000000000) (hte : TOk d.e.expire) (htn : TOk d.now) (hk : 1 ≤ d.kind ∧ d.kind ≤ 4) :
    Calls Try.prog 9 #[pV C.pc, d.v] w fun r w' => ∃ p, r = .returned (pV p) ∧ JsAt b0 w' C { x with js := x.js ++ [⟨d, leftD d C.ps.length, false, []⟩] } (ps ++ [p]) ∧ Fr [] w w' := by
  obtain ⟨hv, c, L, h⟩ := h
  refine (begin_calls h.ca d hnm hte htn hk).mono ?_
  rintro r w' ⟨j, rfl, hj, hjd, hjl, hjn, hje, hjv, hjp, hf⟩
  refine ⟨_, rfl, ⟨hv, c, L ++ [j], ?_⟩, hf⟩
  have h' := h.fr0 hf
  have hlt : ∀ y ∈ ps, y < w.heap.size := fun y hy => by
    rw [← h.pe] at hy
    obtain ⟨j', hj', rfl⟩ := List.mem_map.1 hy
    exact (h.job j' hj').blk.lt
  have hpl : ps.length = L.length := by rw [← h.pe, List.length_map]
  refine ⟨h'.ca, by simp [h.pe], by simp [h.ln], h.ss, ?_, fun i m hm => ?_, h.hist, fun j' hj' => ?_, fun k j' hk' => ?_, fun j' hj' => ?_, fun j' hj' => ?_, fun k j' hk' b hb => ?_, ?_, h.b⟩
  · rw [h.who]
    refine List.map_congr_left fun o ho => ?_
    cases o with
    | none => rfl
    | some m =>
      obtain ⟨i, hi⟩ := List.getElem?_of_mem ho
      have := h.wl i m hi
      simp [List.getD_eq_getElem?_getD, List.getElem?_append_left this]
  · have := h.wl i m hm
    rw [List.length_append]; omega
  · rcases List.mem_append.1 hj' with hj' | hj'
    · exact h'.job j' hj'
    · obtain rfl := List.mem_singleton.1 hj'
      exact hj
  · rcases get_snoc hk' with ⟨hl, hk'⟩ | ⟨rfl, rfl⟩
    · show (x.js ++ _)[k]? = _
      rw [List.getElem?_append_left (by rw [← h.ln]; exact hl)]
      exact h.pj k j' hk'
    · show (x.js ++ _)[L.length]? = _
      rw [h.ln, List.getElem?_append_right (Nat.le_refl _)]
      simp [hjd, hjl, hjn, hje, tells]
  · rcases List.mem_append.1 hj' with hj' | hj'
    · exact h.jd j' hj'
    · obtain rfl := List.mem_singleton.1 hj'
      rw [hje]; intro e he; cases he
  · rcases List.mem_append.1 hj' with hj' | hj'
    · exact h.el j' hj'
    · obtain rfl := List.mem_singleton.1 hj'
      rw [hje]; exact Nat.zero_le _
  · rcases get_snoc hk' with ⟨hl, hk'⟩ | ⟨rfl, rfl⟩
    · refine ⟨(h.ow k j' hk' b hb).1, fun m j2 hm hne hb2 => ?_⟩
      rcases get_snoc hm with ⟨-, hm⟩ | ⟨rfl, rfl⟩
      · exact (h.ow k j' hk' b hb).2 m j2 hm hne hb2
      · rw [hjv] at hb2; cases hb2
    · rw [hjv] at hb; cases hb
  · rw [List.nodup_append]
    refine ⟨h.nd, by simp, fun a ha b hb => ?_⟩
    obtain rfl := List.mem_singleton.1 hb
    have := hlt a ha
    omega
theorem js_events {k p : Nat} {y : PJ} (h : JsAt b0 w C x ps) (hk : ps[k]? = some p) (hy : x.js[k]? = some y) (hh : x.hist.length < 900000) :
    Calls Try.prog 12 #[pV p] w fun r w' => ∃ (v : Value) (ev : List Ev), r = .returned v ∧ w'.ownsRow w.heap.size 47 20 v ev.length (ev.flatMap Ev.c) ∧ tells ev = y.ev ∧ (∀ e ∈ ev, e.d = y.d) ∧ Fr [] w w' := by
  obtain ⟨hv, c, L, h⟩ := h
  have hkl : k < L.length := by
    have := (List.getElem?_eq_some_iff.1 hk).1
    rw [← h.pe, List.length_map] at this; exact this
  obtain ⟨j, hj⟩ : ∃ j, L[k]? = some j := ⟨_, List.getElem?_eq_getElem hkl⟩
  have hjm := List.mem_of_getElem? hj
  have hjp : j.p = p := by
    have h1 := get_map (f := (·.p)) hj
    rw [h.pe, hk] at h1
    exact (Option.some.inj h1).symm
  have hpj := h.pj k j hj
  rw [hy] at hpj
  have hcl : c.hist.length < 900000 := by rw [← h.hist, List.length_map] at hh; exact hh
  have hel := h.el j hjm
  subst hjp
  refine (events_calls (h.job j hjm) (by omega)).mono ?_
  rintro r w' ⟨v, rfl, ho, hf⟩
  cases hpj
  exact ⟨v, j.ev, rfl, ho, rfl, h.jd j hjm, hf⟩
theorem js_history (h : JsAt b0 w C x ps) (hh : x.hist.length < 900000) :
    Calls Try.prog 13 #[pV C.pc] w fun r w' => ∃ (v : Value) (ev : List Ev), r = .returned v ∧ w'.ownsRow w.heap.size 47 20 v ev.length (ev.flatMap Ev.c) ∧ ev.map Ev.tr = x.hist ∧ Fr [] w w' := by
  obtain ⟨hv, c, L, h⟩ := h
  have hcl : c.hist.length < 900000 := by rw [← h.hist, List.length_map] at hh; exact hh
  refine (history_calls h.ca (by omega)).mono ?_
  rintro r w' ⟨v, rfl, ho, hf⟩
  exact ⟨v, _, rfl, ho, h.hist, hf⟩
end
theorem js_new (n room size : Nat) (h1 : 1 ≤ room) (h2 : room ≤ 64) (h3 : 1 ≤ size) (h4 : size ≤ 256) (hn : 1 ≤ n ∧ n ≤ 16) (w : World) :
    Calls Try.prog 8 #[.int .i64 n, .int .i64 room, .int .i64 size] w fun r w' => ∃ C : CB, r = .returned (pV C.pc) ∧ JsAt w.heap.size w' C ⟨List.replicate n (newS room), noW n, [], []⟩ [] ∧ C.ps.length = n ∧ Fr [] w w' := by
  refine (new_cache n room size h1 h2 h3 h4 hn w).mono ?_
  rintro r w' ⟨C, rfl, hc, hl, hf, hb⟩
  have hwr : ∀ z ∈ C.wr, z ∈ C.all := by
    intro z hz
    unfold CB.wr at hz
    unfold CB.all
    simp only [List.mem_cons, List.mem_append, List.mem_flatMap] at hz ⊢
    rcases hz with h | h | ⟨B, hB, h⟩
    · exact .inl h
    · exact .inr (.inr (.inl h))
    · exact .inr (.inr (.inr ⟨B, hB, B.wr_all z h⟩))
  refine ⟨C, rfl, ⟨_, _, [], ⟨hc, rfl, rfl, rfl, ?_, fun i m hm => ?_, rfl, (fun _ h => by cases h), (fun k j h => by simp at h), (fun _ h => by cases h), (fun _ h => by cases h), (fun k j h => by simp at h), List.nodup_nil, fun z hz => hb z (hwr z hz), ?_⟩⟩, hl, hf⟩
  · simp [noW]
  · have := List.mem_of_getElem? hm
    simp [noW] at this
  · have h5 := hb C.pc (by unfold CB.all; simp)
    have := hc.ok.pc
    omega
end Go.Proofs.Ytogjfcmclfehkaa
