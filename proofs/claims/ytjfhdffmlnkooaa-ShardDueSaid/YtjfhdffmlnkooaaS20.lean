import Derived.Test.YtjfhdffmlnkooaaRP
import Derived.Test.YtjfhdffmlnkooaaRH
import Derived.Test.YtjfhdffmlnkooaaRB
namespace Go.Proofs.Ytjfhdffmlnkooaa
open Go Go.RowKit Go.Proofs.MapL PPM Go.Proofs.YtjfhdffmlnkooaaW.PrintWords

theorem elU64 : Elem Try.prog 61 27 (.int .u64 0) 1 8 := ⟨by kernel_rfl, by kernel_rfl, rfl, by omega⟩
/-- When an entry ends, as Lookup at 0 tells. -/
def exF (s : SS) (q : Qn) : Int := (tellE (s.ent q) 0).1.expire
def eu (x : Int) : Value := .int .u64 x
theorem exF_of {s : SS} {q : Qn} {x : En} (h : s.ent q = some x) (hx : TOk x.expire) : exF s q = x.expire := by
  have h0 := hx.1
  unfold exF tellE
  rw [h]
  dsimp only
  cases hl : liveB x.expire 0 with
  | true => rfl
  | false =>
    unfold liveB at hl
    simp at hl
    show (0 : Int) = _
    omega
theorem ent_all {P : En → Prop} {s : SS} (hU : Uq s) (h : EnAll P s) {q : Qn} {x : En} (he : s.ent q = some x) : P x := by
  obtain ⟨k, a, hk, -, rfl, -⟩ := (ent_iff hU).1 he
  exact h k a hk
theorem perm_len {α : Type} {l m : List α} (hl : l.Nodup) (hm : m.Nodup) (h : ∀ x, x ∈ l ↔ x ∈ m) : l.length = m.length := ((List.perm_ext_iff_of_nodup hl hm).2 h).length_eq
theorem filter_parts {α : Type} (p : α → Bool) : ∀ l : List α, (l.filter fun q => !p q).length + (l.filter p).length = l.length := by
  intro l
  induction l with
  | nil => rfl
  | cons a l ih =>
    rw [List.filter_cons, List.filter_cons]
    cases h : p a <;> simp <;> omega
theorem due_pure {s t : SS} (hU : Uq s) (hV : Uq t) (he : ∀ q, t.ent q = s.ent q) (hok : ∀ q x, s.ent q = some x → TOk x.expire) (now : Int) :
    (∀ q ∈ keysS s, decide (q ∈ dueQ t now) = decide (exF s q ≤ now)) ∧ ((keysS s).filter fun q => decide (exF s q ≤ now)).length = (dueQ t now).length ∧
    (dueS t now).all.length + (dueQ t now).length = (keysS s).length ∧ dueQ (dueS t now) now = [] := by
  have hm : ∀ q, q ∈ dueQ t now ↔ q ∈ keysS s ∧ exF s q ≤ now := by
    intro q
    rw [mem_dueQ hV, mem_keys hU, he]
    constructor
    · rintro ⟨x, hx, hle⟩
      rw [exF_of hx (hok _ _ hx), hx]
      exact ⟨rfl, hle⟩
    · rintro ⟨h1, h2⟩
      obtain ⟨x, hx⟩ := Option.isSome_iff_exists.1 h1
      rw [exF_of hx (hok _ _ hx)] at h2
      exact ⟨x, hx, h2⟩
  have hn := keys_nodup hU
  have h2 : ((keysS s).filter fun q => decide (exF s q ≤ now)).length = (dueQ t now).length := by
    refine perm_len (hn.sublist List.filter_sublist) (dueQ_nodup hV now) fun q => ?_
    rw [List.mem_filter, hm]
    simp
  refine ⟨fun q hq => decide_eq_decide.2 ((hm q).trans ⟨fun h => h.2, fun h => ⟨hq, h⟩⟩), h2, ?_, ?_⟩
  · have h3 : (dueS t now).all.length = ((keysS s).filter fun q => !decide (exF s q ≤ now)).length := by
      rw [← keys_len]
      refine perm_len (keys_nodup (due_uq hV now)) (hn.sublist List.filter_sublist) fun q => ?_
      rw [List.mem_filter, mem_keys (due_uq hV now), due_ent hV, he, mem_keys hU]
      cases hx : s.ent q with
      | none => simp
      | some x =>
        rw [exF_of hx (hok _ _ hx), Option.isSome_filter]
        simp
    rw [h3, ← h2]
    exact filter_parts _ _
  · rw [List.eq_nil_iff_forall_not_mem]
    intro q hq
    obtain ⟨x, hx, hle⟩ := (mem_dueQ (due_uq hV now)).1 hq
    rw [due_ent hV] at hx
    obtain ⟨-, h5⟩ := Option.filter_eq_some_iff.1 hx
    have := of_decide_eq_true h5
    omega
theorem filter_take {α : Type} {p : α → Bool} {l : List α} {k : Nat} {q : α} (h : l[k]? = some q) : ((l.take (k + 1)).filter p).length = ((l.take k).filter p).length + (if p q then 1 else 0) := by
  obtain ⟨hk, rfl⟩ := List.getElem?_eq_some_iff.1 h
  rw [List.take_succ_eq_append_getElem hk, List.filter_append, List.length_append]
  cases hp : p l[k] <;> simp [hp]
theorem take_map_succ {α β : Type} {f : α → β} {l : List α} {k : Nat} {q : α} (h : l[k]? = some q) : (l.take (k + 1)).map f = (l.take k).map f ++ [f q] := by
  obtain ⟨hk, rfl⟩ := List.getElem?_eq_some_iff.1 h
  rw [List.take_succ_eq_append_getElem hk, List.map_append]; rfl
theorem own_nice {w : World} {base E size n : Nat} {v : Value} {xs : List Value} (h : w.ownsRow base E size v n xs) : ∃ A c, v = .slice A n c ∧ (0 < n → ∃ g, A = some ⟨g, 0, none⟩) := by
  rcases h.2 with ⟨rfl, e⟩ | ⟨g, cap, cur, rfl, -⟩
  · exact ⟨none, 0, by rw [e], fun h => by omega⟩
  · exact ⟨_, cap, rfl, fun _ => ⟨g, rfl⟩⟩
set_option maxRecDepth 100000 in
set_option maxHeartbeats 8000000 in
theorem due_law {w : World} {v : Value} {ds : List Dd} (hD : DeedsAt w v ds) (now : Int) (hn : TOk now) : Calls Try.prog 7 #[v, .int .u64 now] w fun r w' => r = .returned (.bool true) ∧ Fr [] w w' := by
  have HTN := Hd.mk hn
  clear hn
  go_enter Try.func7, Try.ntmps7
  have HF := Hd.mk (Fr.refl [] w)
  have HD := Hd.mk hD
  clear hD
  go_wp2_with fail
  refine (shown_calls _).mono ?_
  rintro r wr ⟨rfl, hf⟩
  have HF := Hd.mk (HF.out.trans hf)
  have HD := Hd.mk (HD.out.fr hf)
  clear hf
  go_wp2_with fail
  refine (ran_calls HD.out).mono ?_
  rintro r wn ⟨B, s, rfl, hs, hl4, hh4, hen, hf, hge⟩
  have HNEW : Hd (∀ k ∈ B.all, w.heap.size ≤ k) := Hd.mk fun k hk => Nat.le_trans HF.out.size (hge k hk)
  have HF := Hd.mk (HF.out.trans hf)
  have HS := Hd.mk hs
  have HU := Hd.mk hs.uq
  have HOK : Hd (∀ q x, s.ent q = some x → TOk x.expire) := Hd.mk fun q x hx => (ent_all hs.uq hen hx).t
  have HL4 := Hd.mk hl4
  clear hf hs hge hl4 hh4 hen
  go_wp2_with fail
  refine (keys_calls HS.out).mono ?_
  rintro r wl ⟨v1, rfl, hq1, -, hs, hf⟩
  have HF := Hd.mk (HF.out.trans hf)
  have HS := Hd.mk hs
  have HQ := Hd.mk (own_base hq1 (Nat.zero_le _) : QRow wl 0 v1 _)
  have HBL : Hd (∀ k ∈ B.all, k < wl.heap.size) := Hd.mk hs.lt
  have HKL4 : Hd ((keysS s).length ≤ 4) := Hd.mk (by rw [keys_len]; have := all_le s; have := HL4.out; omega)
  obtain ⟨ks, hks⟩ : ∃ l, keysS s = l := ⟨_, rfl⟩
  have HKS := Hd.mk hks
  rw [hks] at HQ HKL4
  obtain ⟨A1, c1, rfl, ha1⟩ := row_form HQ.out
  have HA1 := Hd.mk ha1
  have HQB : Hd (∀ k, (Value.slice A1 ks.length c1).ownBlock = some k → k < wl.heap.size) := Hd.mk fun k hk => (HQ.out.lt k hk).2
  clear hf hs hq1 hks ha1
  go_wp2_with fail
  have HWW : Hd (w.heap.size ≤ wl.heap.size) := Hd.mk HF.out.size
  go_loopw [8, 9, 10, 11] (fun v8 i _ _ wr2 => ∃ (k : Nat) (sk : SS), k ≤ ks.length ∧ i = .int .i64 k ∧ wr2.ownsRow wl.heap.size 27 1 v8 k ((ks.take k).map fun q => eu (exF s q)) ∧ ShE wr2 B sk ∧ (∀ q, sk.ent q = s.ent q) ∧ sk.l.length = 4 ∧ QRow wr2 0 (.slice A1 ks.length c1) ks ∧ Fr [] w wr2 ∧ wl.heap.size ≤ wr2.heap.size) (fun _ i _ _ _ => ks.length - (intOf i).toNat)
  case atStart => exact ⟨0, s, Nat.zero_le _, rfl, World.ownsRow_nil _ _ _ _, HS.out, fun _ => rfl, HL4.out, HQ.out, HF.out, Nat.le_refl _⟩
  case round =>
    obtain ⟨k, sk, hk, rfl, ho, hs, hen, hlk, hq0, hf0, hsz0⟩ := hrel
    have HUK := Hd.mk hs.uq
    have HO := Hd.mk ho
    have HS := Hd.mk hs
    have HEN := Hd.mk hen
    have HLK := Hd.mk hlk
    have HQ := Hd.mk hq0
    have HF := Hd.mk hf0
    have HSZ := Hd.mk hsz0
    clear hsz0 ho hs hen hlk hq0 hf0
    by_cases hlt : k < ks.length
    · obtain ⟨g1, rfl⟩ := HA1.out.1 (by omega)
      obtain ⟨q, hq⟩ : ∃ q, ks[k]? = some q := ⟨_, List.getElem?_eq_getElem hlt⟩
      have HKQ := Hd.mk hq
      have HKL := Hd.mk hlt
      obtain ⟨r0, r1, r2⟩ := row_cells HQ.out hq
      clear hq
      go_wp2_with fail
      clear r0 r1 r2
      refine (lookup_calls HS.out q 0).mono ?_
      rintro r wc ⟨rfl, hs, hf⟩
      have h2 := look_told sk q 0
      have hx : (lookR sk q 0).2.1.expire = exF s q := by rw [h2, HEN.out]; rfl
      have HSZ := Hd.mk (Nat.le_trans HSZ.out (Fr.size hf))
      have HF := Hd.mk (fr_over HF.out HNEW.out hf)
      have HQ := Hd.mk (row_step HQ.out HS.out hf)
      have HO := Hd.mk (own_fr HO.out hf (fun z hz hx => by have := (HO.out.lt z hz).1; have := HBL.out z (B.wr_all z hx); omega))
      have HS := Hd.mk hs
      have HEN2 : Hd (∀ q', (lookR sk q 0).1.ent q' = s.ent q') := Hd.mk fun q' => by rw [look_ent HUK.out]; exact HEN.out q'
      have HL2 : Hd ((lookR sk q 0).1.l.length = 4) := Hd.mk (by rw [(look_len sk q 0).1]; exact HLK.out)
      obtain ⟨s2, hs2⟩ : ∃ x, (lookR sk q 0).1 = x := ⟨_, rfl⟩
      rw [hs2] at HS HEN2 HL2
      obtain ⟨el, hel⟩ : ∃ x, (lookR sk q 0).2.1 = x := ⟨_, rfl⟩
      rw [hel] at hx ⊢
      have HXE := Hd.mk hx
      clear hf hs h2 hs2 hel hx
      unfold En.v
      go_upto_region 9 with (fail)
      refine wp_name ?_; intro wxe hwa
      have hfa := alloc_of hwa
      have hba := blk_of (T := 29) (c := [.string el.q.name, .int .u16 el.q.ty, .int .u16 el.q.cl, .slice el.ra el.rn el.rc, .int .i64 el.rcode, .int .i64 el.rank, .int .u64 el.expire]) hwa
      clear hwa
      obtain ⟨xe, hxx⟩ : ∃ x, wc.heap.size = x := ⟨_, rfl⟩
      rw [hxx] at hba ⊢
      have NHEB : Hd (xe ∉ B.wr ∧ w.heap.size ≤ xe ∧ xe ∉ B.all) := Hd.mk ⟨fun h => by have := HS.out.lt _ (B.wr_all _ h); omega, by have := HF.out.size; omega, fun h => by have := HS.out.lt _ h; omega⟩
      have HSZ := Hd.mk (Nat.le_trans HSZ.out (Fr.size hfa))
      have HF := Hd.mk (HF.out.trans hfa)
      have HS := Hd.mk (HS.out.fr0 hfa)
      have HQ := Hd.mk (row0 HQ.out hfa)
      have HO := Hd.mk (own_fr HO.out hfa (by simp))
      have HEB := Hd.mk hba
      clear hfa hba hxx
      have HBZ := HO.out
      have hk4 := HKL4.out
      have hkl := HKL.out
      have hbz : wl.heap.size ≤ wxe.heap.size := HSZ.out
      obtain ⟨r0, r1, r2, r3, r4, r5, r6, rf⟩ := HEB.out.cells7
      go_wp2_with (at_builtin; refine wpList_app1s elU64 rfl (.tmp 35) (.tmp 38) rfl HBZ rfl [.int .u64 el.expire] rfl rfl (by simp [Value.oneCell']) (by omega) (by omega) hbz ?_; intro g9 c9 w9 ho9 hf9 hb9 hg9 hor9; have HO9 := Hd.mk ho9; have HF9 := Hd.mk hf9; clear ho9 hf9 hb9 hg9 hor9 HBZ r0 r1 r2 r3 r4 r5 r6 rf)
      have HBN : Hd (∀ k ∈ B.all, k ∉ u8.ownBlock.toList) := Hd.mk fun z hz hx => by have := (HO.out.lt z (by simpa using hx)).1; have := HBL.out z hz; omega
      have HF := Hd.mk (HF.out.weak HF9.out (fun z hz => .inr (Nat.le_trans HWW.out (HO.out.lt z (by simpa using hz)).1)))
      have HS := Hd.mk (HS.out.fr HF9.out HBN.out)
      have HSZ := Hd.mk (Nat.le_trans HSZ.out HF9.out.size)
      have HQ : Hd (QRow w9 0 (.slice (some ⟨g1, 0, none⟩) ks.length c1) ks) := Hd.mk (own_fr HQ.out HF9.out (fun z hz hx => by have := (HO.out.lt z (by simpa using hx)).1; have := HQB.out z hz; omega))
      have e1 := take_map_succ (f := fun q => eu (exF s q)) HKQ.out
      have HO := Hd.mk (by rw [HXE.out] at HO9; rw [e1]; exact HO9.out : w9.ownsRow wl.heap.size 27 1 (.slice (some ⟨g9, 0, none⟩) (k + 1) c9) (k + 1) ((ks.take (k + 1)).map fun q => eu (exF s q)))
      clear e1
      go_wp2
      go_roundw
      case rel => exact ⟨k + 1, s2, by omega, by go_num, HO.out, HS.out, HEN2.out, HL2.out, HQ.out, HF.out, HSZ.out⟩
      case measure => simp [intOf]; omega
    · obtain rfl : k = ks.length := by omega
      have hoo := HO.out
      rw [List.take_length] at hoo
      have HO := Hd.mk hoo
      have HP := Hd.mk (due_pure HU.out HUK.out HEN.out HOK.out now)
      rw [HKS.out] at HP
      clear hoo hk
      go_wp2_with fail
      refine (advance_calls HS.out HTN.out).mono ?_
      rintro r wd ⟨v2, rfl, hq2, -, hs, hf⟩
      clear hlt
      have HF := Hd.mk (fr_over HF.out HNEW.out hf)
      have HQ := Hd.mk (row_step HQ.out HS.out hf)
      have HO := Hd.mk (own_fr HO.out hf (fun z hz hx => by have := (HO.out.lt z hz).1; have := HBL.out z (B.wr_all z hx); omega))
      have HS := Hd.mk hs
      have HG := Hd.mk hq2
      obtain ⟨G, hG⟩ : ∃ l, dueQ sk now = l := ⟨_, rfl⟩
      have HGL : Hd (G.length < 1000000) := Hd.mk (by rw [← hG]; have := dueQ_len sk now; have := HLK.out; omega)
      obtain ⟨s5, hs5⟩ : ∃ l, dueS sk now = l := ⟨_, rfl⟩
      rw [hG, hs5] at HP
      rw [hG] at HG
      rw [hs5] at HS
      obtain ⟨A2, c2, rfl, ha2⟩ := row_form HG.out
      have HOF : Hd (∃ A8 c8, u8 = .slice A8 ks.length c8 ∧ (0 < ks.length → ∃ g, A8 = some ⟨g, 0, none⟩)) := Hd.mk (own_nice HO.out)
      clear hf hs hq2 hG hs5 ha2
      obtain ⟨A8, c8, rfl, ha8⟩ := HOF.out
      have HA8 := Hd.mk ha8
      clear ha8
      go_wp2_with fail
      go_loopw [13, 14] (fun n i wr3 => ∃ k : Nat, k ≤ ks.length ∧ i = .int .i64 k ∧ n = .int .i64 ((ks.take k).filter (fun q => decide (exF s q ≤ now))).length ∧ Fr [] wd wr3) (fun _ i _ => ks.length - (intOf i).toNat)
      case atStart => exact ⟨0, Nat.zero_le _, rfl, rfl, Fr.refl _ _⟩
      case round =>
        obtain ⟨k, hk, rfl, rfl, hFr⟩ := hrel
        have HFr := Hd.mk hFr
        have HQ3 := Hd.mk (row0 HQ.out hFr)
        have HG3 := Hd.mk (row0 HG.out hFr)
        have HO3 := Hd.mk (own_fr HO.out hFr (by simp))
        clear hFr
        by_cases hlt : k < ks.length
        · obtain ⟨g1, rfl⟩ := HA1.out.1 (by omega)
          obtain ⟨g8, rfl⟩ := HA8.out (by omega)
          obtain ⟨q, hq⟩ : ∃ q, ks[k]? = some q := ⟨_, List.getElem?_eq_getElem hlt⟩
          have HKQ := Hd.mk hq
          have HKL := Hd.mk hlt
          obtain ⟨b, hb⟩ : ∃ b, decide (exF s q ≤ now) = b := ⟨_, rfl⟩
          have HBE := Hd.mk hb
          have HBG : Hd (decide (q ∈ G) = b) := Hd.mk ((HP.out.1 q (List.mem_of_getElem? hq)).trans hb)
          have HFT : Hd (((ks.take (k + 1)).filter (fun q => decide (exF s q ≤ now))).length = ((ks.take k).filter (fun q => decide (exF s q ≤ now))).length + (if b then 1 else 0)) := Hd.mk (by rw [filter_take hq, hb])
          obtain ⟨n, hn⟩ : ∃ n, ((ks.take k).filter (fun q => decide (exF s q ≤ now))).length = n := ⟨_, rfl⟩
          have HNL : Hd (n ≤ 4) := Hd.mk (by rw [← hn]; have h1 := List.length_filter_le (fun q => decide (exF s q ≤ now)) (ks.take k); rw [List.length_take] at h1; have := HKL4.out; omega)
          rw [hn] at HFT ⊢
          clear hq hb hn
          have hnl := HNL.out
          go_wp2_with fail
          refine wp_region_gs { R := Fr [], R1 := Fr [], gs := [Is (.slice A2 G.length c2), Is (.slice (some ⟨g1, 0, none⟩) ks.length c1), Is (.int .i64 k), Is (.pointer (some ⟨g1, k * 3, none⟩)), Is (.agg #[.string q.name, .int .u16 q.ty, .int .u16 q.cl]), Is (.bool b), Is (.slice (some ⟨g8, 0, none⟩) ks.length c8), Is (.int .i64 k), Is (.pointer (some ⟨g8, k, none⟩)), Is (.int .u64 (exF s q)), Is (.int .u64 now), Is (.bool b), Is (.bool false)], ds := [some 49, some 50, some 51, some 52, some 53, some 54, some 55, some 56, some 57, some 58, some 59, some 60, some 61], fl := [false, false, false, false, false, false, false, false, false, false, false, false, false], hs := [], hd := [] } [false, false, false, false, false, false, false, false, false, false, false, false, false, false, false, false, false, false, false, false, false, false, false, false, false, false, false, false, false, false, false, false, false, false, false, false, false, false, false, false, false, false, false, false, false, false, false, false, false, true, true, true, true, true, true, true, true, true, true, true, true, true, false, false, false, false, false, false, false, false, false, false, false, false, false, false, false, false, false, false, false, false, false, false, false, false, false, false, false, false, false, false, false] (by kernel_rfl) _ (by kernel_rfl) (by kernel_rfl) (by kernel_rfl) (by kernel_rfl) rfl [] (fun _ _ _ h1 h2 => h1.trans h2) (fun _ _ h => h) (staI (staI (staI (staI (staI (staI (staI (staI (staI (staI (staI (staI (staI sta0))))))))))))) sth0 (fun _ _ h => h.size) _ (Fr.refl _ _) trivial ?_ ?_
          · refine ⟨?_, ?_, ?_, ?_, ?_, ?_, ?_, ?_, ?_, ?_, ?_, ?_, ?_, trivial⟩
            · intro σ w' hR hd
              simp only [fill, Nat.reduceAdd, if_true, Bool.false_eq_true, if_false]
              clear hd
              go_wp2
              exact ⟨Fr.refl _ _, rfl⟩
            · intro σ w' hR hd
              simp only [fill, Nat.reduceAdd, if_true, Bool.false_eq_true, if_false]
              clear hd
              go_wp2
              exact ⟨Fr.refl _ _, rfl⟩
            · intro σ w' hR hd
              simp only [fill, Nat.reduceAdd, if_true, Bool.false_eq_true, if_false]
              clear hd
              go_wp2
              exact ⟨Fr.refl _ _, rfl⟩
            · intro σ w' hR hd
              simp only [fill, Nat.reduceAdd, if_true, Bool.false_eq_true, if_false]
              obtain h50 : σ 50 = _ := hd 1 (by decide)
              obtain h51 : σ 51 = _ := hd 2 (by decide)
              rw [h50, h51]
              clear h50 h51
              clear hd
              have hkl := HKL.out
              go_wp2
              exact ⟨Fr.refl _ _, rfl⟩
            · intro σ w' hR hd
              simp only [fill, Nat.reduceAdd, if_true, Bool.false_eq_true, if_false]
              obtain h52 : σ 52 = _ := hd 3 (by decide)
              rw [h52]
              clear h52
              clear hd
              obtain ⟨r0, r1, r2⟩ := row_cells (row0 HQ3.out ((Fr.drew (Fr.refl [] _)).trans hR)) HKQ.out
              go_wp2
              exact ⟨Fr.refl _ _, rfl⟩
            · intro σ w' hR hd
              simp only [fill, Nat.reduceAdd, if_true, Bool.false_eq_true, if_false]
              obtain h49 : σ 49 = _ := hd 0 (by decide)
              obtain h53 : σ 53 = _ := hd 4 (by decide)
              rw [h49, h53]
              clear h49 h53
              clear hd
              go_wp2_with fail
              have hh := has_calls (row0 HG3.out ((Fr.drew (Fr.refl [] _)).trans hR)) HGL.out q
              rw [HBG.out] at hh
              refine hh.mono ?_
              rintro r w4 ⟨rfl, hf4⟩
              have HF4 := Hd.mk hf4
              clear hf4 hh
              go_wp2
              exact ⟨HF4.out, rfl⟩
            · intro σ w' hR hd
              simp only [fill, Nat.reduceAdd, if_true, Bool.false_eq_true, if_false]
              clear hd
              go_wp2
              exact ⟨Fr.refl _ _, rfl⟩
            · intro σ w' hR hd
              simp only [fill, Nat.reduceAdd, if_true, Bool.false_eq_true, if_false]
              clear hd
              go_wp2
              exact ⟨Fr.refl _ _, rfl⟩
            · intro σ w' hR hd
              simp only [fill, Nat.reduceAdd, if_true, Bool.false_eq_true, if_false]
              obtain h55 : σ 55 = _ := hd 6 (by decide)
              obtain h56 : σ 56 = _ := hd 7 (by decide)
              rw [h55, h56]
              clear h55 h56
              clear hd
              have hkl := HKL.out
              go_wp2
              exact ⟨Fr.refl _ _, rfl⟩
            · intro σ w' hR hd
              simp only [fill, Nat.reduceAdd, if_true, Bool.false_eq_true, if_false]
              obtain h57 : σ 57 = _ := hd 8 (by decide)
              rw [h57]
              clear h57
              clear hd
              have r0 := own_cell (own_fr HO3.out ((Fr.drew (Fr.refl [] _)).trans hR) (by simp)) (j := k) (v := .int .u64 (exF s q)) (by rw [List.getElem?_map, HKQ.out]; rfl)
              go_wp2
              exact ⟨Fr.refl _ _, rfl⟩
            · intro σ w' hR hd
              simp only [fill, Nat.reduceAdd, if_true, Bool.false_eq_true, if_false]
              clear hd
              go_wp2
              exact ⟨Fr.refl _ _, rfl⟩
            · intro σ w' hR hd
              simp only [fill, Nat.reduceAdd, if_true, Bool.false_eq_true, if_false]
              obtain h58 : σ 58 = _ := hd 9 (by decide)
              obtain h59 : σ 59 = _ := hd 10 (by decide)
              rw [h58, h59]
              clear h58 h59
              clear hd
              have hbe := HBE.out
              go_wp2
              exact ⟨Fr.refl _ _, rfl⟩
            · intro σ w' hR hd
              simp only [fill, Nat.reduceAdd, if_true, Bool.false_eq_true, if_false]
              obtain h54 : σ 54 = _ := hd 5 (by decide)
              obtain h60 : σ 60 = _ := hd 11 (by decide)
              rw [h54, h60]
              clear h54 h60
              clear hd
              have hbb : (b == b) = true := by simp
              go_wp2
              exact ⟨Fr.refl _ _, rfl⟩
          · intro σ w3 hR hG hH
            obtain h61 : σ 61 = _ := hG 12 (by decide)
            simp only [fill, Nat.reduceAdd, if_true, Bool.false_eq_true, if_false, h61]
            clear h61
            clear hG
            have HFr2 := Hd.mk (HFr.out.trans ((Fr.drew (Fr.refl [] _)).trans hR))
            have r0 := own_cell (own_fr HO3.out ((Fr.drew (Fr.refl [] _)).trans hR) (by simp)) (j := k) (v := .int .u64 (exF s q)) (by rw [List.getElem?_map, HKQ.out]; rfl)
            clear hR hH
            have hbe := HBE.out
            have hk4 := HKL4.out
            have hkl := HKL.out
            cases b with
            | true =>
              go_wp2
              go_roundw
              case rel => exact ⟨k + 1, by omega, by go_num, by rw [HFT.out]; go_num, HFr2.out⟩
              case measure => simp [intOf]; omega
            | false =>
              go_wp2
              go_roundw
              case rel => exact ⟨k + 1, by omega, by go_num, by rw [HFT.out]; go_num, HFr2.out⟩
              case measure => simp [intOf]; omega
        · obtain rfl : k = ks.length := by omega
          have HFe := Hd.mk (HF.out.trans HFr.out)
          have HSe := Hd.mk (HS.out.fr0 HFr.out)
          rw [List.take_length, HP.out.2.1]
          have hgk : ((G.length : Int) == (G.length : Int)) = true := by simp
          have hsub : wrap64 ((ks.length : Int) - (G.length : Int)) = (s5.all.length : Int) := by have := HP.out.2.2.1; have := HKL4.out; unfold wrap64; omega
          obtain ⟨tu, hse⟩ := HSe.out
          have HSX := Hd.mk hse
          clear hse hk
          go_wp2_with fail
          clear hlt
          refine (shlen_calls HSX.out).mono ?_
          rintro r w7 ⟨rfl, hf7⟩
          have HFe := Hd.mk (HFe.out.trans hf7)
          have HSe := Hd.mk (HSe.out.fr0 hf7)
          clear hf7
          go_wp2_with fail
          refine (advance_calls HSe.out HTN.out).mono ?_
          rintro r w8 ⟨v3, rfl, -, hv3, -, hf8⟩
          obtain rfl := hv3 HP.out.2.2.2
          have HFe := Hd.mk (fr_over HFe.out HNEW.out hf8)
          clear hf8 hv3
          go_wp2
          go_ret
          exact ⟨rfl, HFe.out⟩
end Go.Proofs.Ytjfhdffmlnkooaa
